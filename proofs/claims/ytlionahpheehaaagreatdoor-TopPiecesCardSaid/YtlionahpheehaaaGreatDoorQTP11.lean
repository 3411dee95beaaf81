import Derived.Test.YtlionahpheehaaaGreatDoorQTP2
import Derived.Test.YtlionahpheehaaaGreatDoorQTP3
import Derived.Test.YtlionahpheehaaaGreatDoorQTP6
import Derived.Test.YtlionahpheehaaaGreatDoorQTP7
import Derived.Test.YtlionahpheehaaaGreatDoorQTP8
import Derived.Test.YtlionahpheehaaaGreatDoorQTP9
import Derived.Test.YtlionahpheehaaaGreatDoorQTP10
set_option linter.unusedSimpArgs false
set_option linter.unusedVariables false
set_option maxHeartbeats 1000000
set_option maxRecDepth 20000
set_option linter.defProp false
namespace Go.Proofs.YtlionahpheehaaaGreatDoor
open Go Go.SL
variable{A:Ab}{j k:Nat}
def MM{nm:ByteArray}(hv:vw A nm=none):(A.size nm).2=4:=by
 have qY:A.look nm=none:=by
  unfold vw at hv
  cases hx:A.look nm with
  | none=>rfl
  | some f=>rw[hx]at hv;cases hv
 unfold Ab.size
 rw[qY]
theorem JG{k':Nat}{nm:ByteArray}{ls:List (List UInt8)}{n s c:Int}{y:PS}(h:Cz k A)(NH:vw A (bU nm)=none)(hB:HA y.1)(hk:y.1.names.length≤k')(hR:CB nm ls (A,n,s,c) 0 y):Cz k' y.1:=by
 unfold CB ie at hR
 simp only[MM NH]at hR
 rw[if_neg aj,List.nil_append]at hR
 obtain⟨e1,x1,⟨⟨f,h1f,Pb,Km⟩,h1c⟩,⟨hx,hy,_⟩|⟨rfl,e2,x2,⟨⟨V7,I8⟩,h2c⟩,c2⟩⟩:=hR
 ·grind
 obtain⟨_,_,f1⟩:=h.fl.create (n:=bU nm) (B:=x1.1) ⟨f,h1f,Prod.ext Pb Km⟩
 rcases c2 with⟨hx,hy,_⟩|⟨rfl,e3,x3,⟨⟨Pa,HF⟩,h3c⟩,c3⟩
 ·grind
 rcases c3 with⟨hx,hy,_⟩|⟨rfl,e4,x4,⟨⟨N6,L6⟩,h4c⟩,c4⟩
 ·grind
 have f3:=f1.put (n:=bU nm) (at_:=0) (b:=cB ls) (B:=x2.1) (C:=x3.1) (Prod.ext V7 I8) (Prod.ext Pa HF)
 rcases c4 with⟨hx,hy,_⟩|⟨rfl,e5,x5,⟨⟨UB,UA⟩,h5c⟩,c5⟩
 ·grind
 have f4:=f3.rename (o:=bU nm) (n:=nm) (B:=x4.1) (Prod.ext N6 L6)
 rcases c5 with⟨hx,hy,_⟩|⟨rfl,e6,x6,⟨h6a,h6b⟩,c6⟩
 ·grind
 rcases c6 with⟨hx,hy,_⟩|⟨_,_,hy⟩
 ·grind
 have Vu:y.1=x5.1:=by rw[hy,h6b]
 rw[Vu]at hB hk ⊢
 exact f4.names hB (Prod.ext UB UA) hk
structure DQ(k:Nat)(A:Ab):Prop where
 ha:HA A
 cz:Cz k A
 room:A.room=16777216
 SO:A.names.length≤k
 kd:∀n c,vw A n=some c→(n=dF∧c.length≤100000)∨(∃d,n=iL d)∧c.length≤1000∨(∃d,n=pS d∧fz c=d)∧c.length≤1000
theorem DQ.used(h:DQ k A):A.used≤100000+1000*k:=by
 have h0:vq JY (fb A) (vw A)≤vq (fun n _=>wE n+1000) (fb A) (vw A):=by
  refine Ps _ _ fun n hn=>?_
  obtain⟨c,hc⟩:=Option.isSome_iff_exists.1 ((mem_keys h.ha n).1 hn)
  rw[hc]
  show c.length≤wE n+1000
  rcases h.kd n c hc with⟨rfl,hl⟩|⟨_,hl⟩|⟨_,hl⟩
  ·grind [wE,dF]
  ·omega
  ·omega
 rw[Pr]at h0
 have h1:vq (fun n _=>wE n) (fb A) (vw A)=((fb A).map wE).sum:=rfl
 have h2:=Wf (fb A) h.ha.keys
 have h3:vq (fun _ _=>1000) (fb A) (vw A)=A.names.length*1000:=by rw[Ek,oY]
 have h4:=oI h.ha
 have h5:=h.SO
 omega
theorem DQ.vy(h:DQ k A):vy A≤1000*k:=by
 have h0:vq (fun n c=>G7 n c) (fb A) (vw A)≤vq (fun _ _=>1000) (fb A) (vw A):=by
  refine Ps _ _ fun n hn=>?_
  obtain⟨c,hc⟩:=Option.isSome_iff_exists.1 ((mem_keys h.ha n).1 hn)
  rw[hc]
  show G7 n c≤1000
  rcases h.kd n c hc with⟨rfl,hl⟩|⟨_,hl⟩|⟨_,hl⟩
  ·rw[ZZ];omega
  ·grind [G7]
  grind [G7]
 have h3:vq (fun _ _=>1000) (fb A) (vw A)=A.names.length*1000:=by rw[Ek,oY]
 have h5:=MD h.ha
 have h6:=h.SO
 grind
def DQ.mono(h:DQ k A)(hk:k≤j):DQ j A:=⟨h.ha,h.cz.mono (fun _ x=>x) hk,h.room,by have:=h.SO;omega,h.kd⟩
theorem DQ.dx(h:DQ k A):DQ k (A.dx 0 [] (-1) 0)∧(∀n c,vw A n=some c→vw (A.dx 0 [] (-1) 0) n=some c)∧(∀n,(∀d,n≠iL d)→vw (A.dx 0 [] (-1) 0) n=vw A n):=by
 obtain⟨h1,h2,h3,h4,h5,h6,h7,h8⟩:=h.cz.dx h.ha
 refine⟨⟨h1,h2,h3.trans h.room,h4,fun n c hc=>?_⟩,h7,fun n hn=>?_⟩
 ·rcases h8 n c hc with hc|hc
  ·exact h.kd n c hc
  grind
 ·cases hx:vw A n with
  | some c=>exact h7 n c hx
  | none =>
   cases hy:vw (A.dx 0 [] (-1) 0) n with
   | none=>rfl
   | some c =>
    grind
def DQ.next{B:Ab}(h:DQ k A)(hB:HA B)(hz:Cz j B)(hr:B.room=A.room)(hn:B.names.length≤j)(hv:∀n c,vw B n=some c→vw A n=some c∨(n=dF∧c.length≤100000)∨(∃d,n=iL d)∧c.length≤1000∨(∃d,n=pS d∧fz c=d)∧c.length≤1000):DQ j B :=
  ⟨hB,hz,hr.trans h.room,hn,fun n c hc=>by
    rcases hv n c hc with hc|hc
    · exact h.kd n c hc
    · exact hc⟩
theorem DQ.open{B:Ab}{e:Nat}(h:DQ k A)(hO:sw A e B):e=0∧B=A:=by
 have hB:∀nm∈gA A,∀d,kf kB nm=some d→iD A d=true:=fun nm nr d hd=>by
  obtain rfl:nm=pS d:=(tr.1 hd)
  obtain⟨c,hc⟩:=Option.isSome_iff_exists.1 ((AP h.ha _).1 nr)
  have hs:fz c=d:=by
   rcases h.kd _ c hc with⟨he,_⟩|⟨⟨d',he⟩,_⟩|⟨⟨d',he,hs⟩,_⟩
   ·exact absurd he (lY kB d)
   ·grind [jU]
   grind [L9]
  unfold iD
  have hb:fV A (pS d)=some c:=by rw[pA h.ha];exact hc
  grind [cX,kB,pS]
 have kZ:∀(k:List UInt8) (nm:ByteArray) (d:Dg),nm∈gA A→kf k nm=some d→(k=kN∨k=kI)→False:=fun k nm d nr hd hk=>by
  obtain rfl:=tr.1 hd
  obtain⟨c,hc⟩:=Option.isSome_iff_exists.1 ((AP h.ha _).1 nr)
  rcases h.kd _ c hc with⟨he,_⟩|⟨⟨d',he⟩,_⟩|⟨⟨d',he,_⟩,_⟩
  ·exact lY k d he
  ·rcases hk with rfl|rfl
   ·exact Ob _ _ he.symm
   ·exact Oc _ _ he.symm
  ·rcases hk with rfl|rfl
   ·exact Od _ _ he.symm
   ·exact Oe _ _ he.symm
 obtain⟨e1,A1,⟨e2,A2,h2,c2⟩,hc⟩:=hO
 obtain⟨rfl,rfl⟩:=uL _ hB h2
 rcases c2 with⟨hx,_⟩|⟨_,e3,A3,h3,c3⟩
 ·grind
 obtain⟨rfl,rfl⟩:=uL _ (fun nm nr d hd=>(kZ kN nm d nr hd (.inl rfl)).elim) h3
 rcases c3 with⟨hx,_⟩|⟨_,e4,A4,h4,c4⟩
 ·grind
 obtain⟨rfl,rfl⟩:=uL _ (fun nm nr d hd=>(kZ kI nm d nr hd (.inr rfl)).elim) h4
 rcases c4 with⟨hx,_⟩|⟨_,rfl,rfl⟩
 ·grind
 grind
attribute [local irreducible] J K aH Ends ak aK aV bX bj aS bp bD cp
theorem DH{ws:List ku}{n:Nat}{w:ku}(hj:j<n)(hw:ws[j/64]?=some w):decide ((((w >>> (j%64)) &&& 1#64).toNat:Int)=1)=cy ws n (j:Int):=by
 unfold cy
 rw[decide_eq_true (show 0≤(j:Int)∧(j:Int)<n by omega),Bool.true_and,Int.toNat_natCast,List.getD_eq_getElem?_getD,hw,Option.getD_some,decide_eq_decide]
 constructor
 ·intro h
  apply BitVec.eq_of_toNat_eq
  grind
 grind
abbrev orW(p q:ku):ku:=p ||| q
theorem Wc(p:ku):IntKind.u64.wrap ((BitVec.ofInt IntKind.u64.bits (p.toNat:Int) &&& BitVec.ofInt IntKind.u64.bits 1).toNat:Int)=((p &&& 1#64).toNat:Int):=by
 grind [oS,nP]
def acH(p q:ku):IntKind.u64.wrap ((BitVec.ofInt IntKind.u64.bits (p.toNat:Int) ||| BitVec.ofInt IntKind.u64.bits (q.toNat:Int)).toNat:Int)=((p ||| q).toNat:Int):=by
 rw[oS,oS]
 exact nP (p ||| q)
def Ia(p q:ku):IntKind.u64.wrap ((BitVec.ofInt IntKind.u64.bits (p.toNat:Int) &&& ~~~ BitVec.ofInt IntKind.u64.bits (q.toNat:Int)).toNat:Int)=((p &&& ~~~q).toNat:Int):=by
 rw[oS,oS]
 exact nP (p &&& ~~~q)
def qNe{ws:List ku}{i:Nat}(h:i<ws.length):qV ws≠[]:=fun e=>by have:=congrArg List.length e;rw[ZQ]at this;rw[this]at h;simp at h
def jK(sb n:Nat)(wv:Value):aH Tryz.prog 71 [ptr sb] [ak sb (cl [.int .i64 (n:Int),wv] 225)] (fun r H=>r = .int .i64 (n:Int)∧H=[ak sb (cl [.int .i64 (n:Int),wv] 225)]):=by
 refine aH.aC Tryz.func71 Tryz.ntmps71 fun G F R hE=>?_
 refine go ?_
 refine ah hE Tryz.func71 zr zr ⟨rfl,rfl⟩
def IV(sb n:Nat)(wv:Value)(ws:List ku)(hn:n≤65536)(hw:n≤ws.length*64)(i:Int):aH Tryz.prog 72 [ptr sb,.int .i64 i] (l4 sb n wv ws) (fun r H=>r = .bool (cy ws n i)∧H=l4 sb n wv ws):=by
 unfold l4
 by_cases hi:0≤i∧i<(n:Int)
 case neg =>
  rw[wk aj]
  refine aH.aC Tryz.func72 Tryz.ntmps72 fun G F R hE=>?_
  by_cases h0:0≤i
  ·refine go ?_
   refine au 7 ((.bool true)) rfl ((congrArg Value.bool (decide_eq_true aj))) (go ?_)
   refine au 15 ((.bool false)) rfl ((congrArg Value.bool (decide_eq_false aj))) (go ?_)
   refine ah hE Tryz.func72 zr zr ⟨rfl,rfl⟩
  ·refine go ?_
   refine au 7 ((.bool false)) rfl ((congrArg Value.bool (decide_eq_false aj))) (go ?_)
   refine ah hE Tryz.func72 zr zr ⟨rfl,rfl⟩
 obtain⟨j,rfl⟩:∃j:Nat,i=j:=⟨i.toNat,aj⟩
 have I2:j/64<ws.length:=by omega
 obtain⟨w,hww⟩:∃w,ws[j/64]?=some w:=⟨ws[j/64],by simp[I2]⟩
 have eB:=JF hww
 refine aH.aC Tryz.func72 Tryz.ntmps72 fun G F R hE=>?_
 refine aM 1 rfl ?_
 rintro a c rfl
 refine eE 1 rfl ?_
 intro dH
 obtain⟨b,o,gV,ez⟩:=dH.some (qNe I2)
 simp only[Value.slice.injEq]at ez
 obtain⟨rfl,_,rfl⟩:=ez
 refine go ?_
 refine au 7 ((.bool true)) rfl ((congrArg Value.bool (decide_eq_true aj))) (go ?_)
 refine au 15 ((.bool true)) rfl ((congrArg Value.bool (decide_eq_true aj))) (go ?_)
 refine zh zr zr zr aj aj (by simp only[js];omega) ?_
 refine au 21 ((.int .i64 ((j/64:Nat):Int))) rfl ((congrArg (Value.int .i64) aj)) (go ?_)
 refine bW (j/64) zr zr zr zr zr zr zr zr I2 (go ?_)
 refine aY ?_
 refine aZ 1 (j/64) zr zr zr dH rfl eB zr zr (go ?_)
 refine uy zr zr zr aj aj ?_
 refine au 25 ((.int .i64 ((j%64:Nat):Int))) rfl ((congrArg (Value.int .i64) aj)) (go ?_)
 refine sB (p:=w) (j%64) zr zr zr zr aj (go ?_)
 ((refine aE 4 ((.bool (cy ws n (j:Int)))) rfl ((congrArg Value.bool (by rw[Wc];exact DH aj hww))) ?_))
 refine ah hE Tryz.func72 zr zr ⟨rfl,rfl⟩
def SM(n:Nat)(hn:n≤65536):aH Tryz.prog 131 [.int .i64 (n:Int)] [] (fun r H=>∃sb wv,r = .tuple #[ptr sb,.int .i64 0]∧H=l4 sb n wv (List.replicate ((n+63)/64) 0#64)):=by
 refine aH.aC Tryz.func131 Tryz.ntmps131 fun G F R hE=>?_
 refine go ?_
 refine aE 6 ((.bool false)) rfl ((congrArg Value.bool (decide_eq_false aj))) (go ?_)
 refine aE 9 ((.bool false)) rfl ((congrArg Value.bool (decide_eq_false aj))) (go ?_)
 refine zh zr zr zr aj aj (by simp only[js];omega) ?_
 refine au 14 ((.int .i64 (((n+63)/64:Nat):Int))) rfl ((congrArg (Value.int .i64) aj)) (go ?_)
 refine od (U:=bh) (p:=(n+63)/64) (q:=(n+63)/64) zr zr zr zr zr zr zr zr zr (Nat.le_refl _) aj (by show 8*_≤_;omega) bO ?_
 intro row
 refine go ?_
 refine bJ zr zr bO ?_
 intro sb
 refine go ?_
 refine al (H':=l4 sb n (.slice (some ⟨row,0,none⟩) ((n+63)/64) ((n+63)/64)) (List.replicate ((n+63)/64) 0#64)++F) ?_ ?_
 ·have hq:qV (List.replicate ((n+63)/64) 0#64)=List.replicate ((n+63)/64) (.int .u64 0):=by simp[qV,Pq]
  unfold l4
  rw[hq,List.length_replicate]
  refine aq.trans (H2:=ak row (cl (List.replicate ((n+63)/64) (.int .u64 0)) 159)::ak sb (cl [.int .i64 (n:Int),.slice (some ⟨row,0,none⟩) ((n+63)/64) ((n+63)/64)] 225)::F) ad ?_
  refine aq.trans (H2:=ak row (cl (List.replicate ((n+63)/64) (.int .u64 0)++[]) 159)::ak sb (cl [.int .i64 (n:Int),.slice (some ⟨row,0,none⟩) ((n+63)/64) ((n+63)/64)] 225)::F) (by rw[List.append_nil];exact aq.refl _) ?_
  refine(fp 159 1 row ((n+63)/64) ((n+63)/64) (List.replicate ((n+63)/64) (.int .u64 0)) [] _ (by simp) (Nat.le_refl _) (by simp)).trans ?_
  exact aq.perm (List.Perm.swap ..)
 ·refine ah hE Tryz.func131 zr zr ⟨_,_,rfl,rfl⟩
def Tz(ws:List ku)(i:Nat)(w:ku)(hw:ws[i/64]?=some w):(qV ws).set (i/64) (.int .u64 ((orW w (BK (i%64))).toNat:Int))=qV (jQ ws i true):=by
 unfold jQ
 rw[if_pos rfl,List.getD_eq_getElem?_getD,hw,Option.getD_some]
 exact P2 ws (i/64) _
def P4(ws:List ku)(i:Nat)(w:ku)(hw:ws[i/64]?=some w):(qV ws).set (i/64) (.int .u64 ((w &&& ~~~(BK (i%64))).toNat:Int))=qV (jQ ws i false):=by
 unfold jQ
 rw[if_neg (by simp),List.getD_eq_getElem?_getD,hw,Option.getD_some]
 exact P2 ws (i/64) _
def OV(sb n:Nat)(wv:Value)(ws:List ku)(hn:n≤65536)(hw:n≤ws.length*64)(i:Nat)(hi:i<n)(one:Bool):aH Tryz.prog 218 [ptr sb,.int .i64 (i:Int),.int .i64 ((i:Int)+1),.bool one] (l4 sb n wv ws) (fun r H=>r = .int .i64 0∧H=l4 sb n wv (jQ ws i one)):=by
 have l9:i/64<ws.length:=by omega
 obtain⟨w,hww⟩:∃w,ws[i/64]?=some w:=⟨ws[i/64],by simp[l9]⟩
 have eB:=JF hww
 unfold l4
 rw[iH]
 refine aH.aC Tryz.func218 Tryz.ntmps218 fun G F R hE=>?_
 refine aM 1 rfl ?_
 rintro a c rfl
 refine eE 1 rfl ?_
 intro dH
 obtain⟨b,o,gV,ez⟩:=dH.some (qNe l9)
 simp only[Value.slice.injEq]at ez
 obtain⟨rfl,_,rfl⟩:=ez
 clear dH
 refine go ?_
 refine au 14 ((.bool false)) rfl ((congrArg Value.bool (decide_eq_false aj))) (go ?_)
 refine au 19 ((.bool false)) rfl ((congrArg Value.bool (decide_eq_false aj))) (go ?_)
 refine aE 26 ((.bool false)) rfl ((congrArg Value.bool (decide_eq_false aj))) (go ?_)
 refine bF (fun g:Nat=>g≤1) (fun g=>1-g) (fun g=>[(0,ptr sb),(1,.int .i64 ((i:Int)+(g:Int))),(2,.int .i64 ((i:Int)+1)),(3,.bool one)])
  (fun g=>ak sb (cl [.int .i64 (n:Int),.slice (some ⟨b,o,none⟩) ws.length c] 225)::aK 159 1 (.slice (some ⟨b,o,none⟩) ws.length c) ws.length (qV (if g=0 then ws else jQ ws i one))::F) 0 aj rfl cF ad ?_
 intro g hg ih
 rcases(by omega:g=0∨g=1)with rfl|rfl
 ·rw[if_pos rfl]
  refine eE 1 rfl ?_
  intro dH
  refine go ?_
  refine aE 29 ((.bool true)) rfl ((congrArg Value.bool (decide_eq_true aj))) (go ?_)
  refine zh zr zr zr aj aj (by simp only[js];omega) ?_
  refine au 31 ((.int .i64 ((i/64:Nat):Int))) rfl ((congrArg (Value.int .i64) aj)) (go ?_)
  refine nG zr zr zr (by simp only[js];omega) ?_
  refine go ?_
  refine au 40 ((.int .i64 63)) rfl ((congrArg (Value.int .i64) aj)) ?_
  refine sB (p:=18446744073709551615#64) 63 rfl (congrArg (fun z:Int=>some (Value.int .u64 z)) (by decide:(18446744073709551615:Int)=((18446744073709551615#64).toNat:Int))) zr zr aj ?_
  refine au 41 ((.int .u64 ((1#64).toNat:Int))) rfl ((congrArg (fun w:ku=>Value.int .u64 (w.toNat:Int)) (by decide))) ?_
  refine go ?_
  refine uy zr zr zr aj aj ?_
  refine au 43 ((.int .i64 ((i%64:Nat):Int))) rfl ((congrArg (Value.int .i64) aj)) ?_
  refine aa7 (p:=1#64) (i%64) zr zr zr zr aj ?_
  rw[show 1#64 <<< (i%64)=BK (i%64)from rfl]
  cases one with
  | true =>
   refine go ?_
   refine bW (i/64) zr zr zr zr zr zr zr zr l9 ?_
   refine aY ?_
   refine aZ 1 (i/64) zr zr zr dH rfl eB zr zr (go ?_)
   refine au 54 ((.int .u64 ((orW w (BK (i%64))).toNat:Int))) rfl ((congrArg (Value.int .u64) (acH w _))) ?_
   refine bW (i/64) zr zr zr zr zr zr zr zr l9 ?_
   refine bE ?_
   refine BW (U:=bh) (q:=i/64) 1 eH zr zr zr zr zr zr zr l9 rfl ?_
   rw[Tz ws i w hww]
   refine go ?_
   refine aE 1 ((.int .i64 ((i:Int)+((1:Nat):Int)))) rfl ((congrArg (Value.int .i64) aj)) ?_
   refine aQ ih 1 rfl aj aj cF ad
  | false =>
   refine go ?_
   refine bW (i/64) zr zr zr zr zr zr zr zr l9 ?_
   refine aY ?_
   refine aZ 1 (i/64) zr zr zr dH rfl eB zr zr (go ?_)
   refine au 64 ((.int .u64 ((w &&& ~~~(BK (i%64))).toNat:Int))) rfl ((congrArg (Value.int .u64) (Ia w _))) ?_
   refine bW (i/64) zr zr zr zr zr zr zr zr l9 ?_
   refine bE ?_
   refine BW (U:=bh) (q:=i/64) 1 eH zr zr zr zr zr zr zr l9 rfl ?_
   rw[P4 ws i w hww]
   refine go ?_
   refine aE 1 ((.int .i64 ((i:Int)+((1:Nat):Int)))) rfl ((congrArg (Value.int .i64) aj)) ?_
   refine aQ ih 1 rfl aj aj cF ad
 ·rw[if_neg aj]
  refine go ?_
  refine aE 29 ((.bool false)) rfl ((congrArg Value.bool (decide_eq_false aj))) (go ?_)
  refine ah hE Tryz.func218 zr zr ⟨rfl,rfl⟩
def IU(sb n:Nat)(wv:Value)(ws:List ku)(hn:n≤65536)(hw:n≤ws.length*64)(i:Nat)(hi:i<n)(one:Bool):aH Tryz.prog 155 [ptr sb,.int .i64 (i:Int),.bool one] (l4 sb n wv ws) (fun r H=>r = .int .i64 0∧H=l4 sb n wv (jQ ws i one)):=by
 have hf:=OV sb n wv ws hn hw i hi one
 unfold l4 at hf ⊢
 refine aH.aC Tryz.func155 Tryz.ntmps155 fun G F R hE=>?_
 refine go ?_
 refine aE 9 ((.bool false)) rfl ((congrArg Value.bool (decide_eq_false aj))) (go ?_)
 refine aE 16 ((.bool false)) rfl ((congrArg Value.bool (decide_eq_false aj))) (go ?_)
 refine aeb hf ?_
 refine go ?_
 refine ah hE Tryz.func155 zr zr ⟨rfl,rfl⟩
attribute [local irreducible] aJ
def eQ(e:Nat):Bool:=decide (e≠0∧e≠1∧e≠5∧e≠8∧e≠11)
def kW(tb bs jb:Nat)(tv:Value)(br:Bool):HP:=ak tb (cl [ptr bs,ptr jb,tv,.bool br] 101)
theorem sO{σ:Type}(I:σ→HP)(tb bs jb:Nat)(tv:Value)(V:HP)(v:Value)(me:List Value)(hv:Vw V v me.length me)(hn:me.length≤1000000000)(ss:List (σ→Nat→σ→Prop))(hlen:ss.length=me.length)(Q:Nat→σ→Prop)(cN:∀(i:Nat) (fv:Value) (s:σ→Nat→σ→Prop),me[i]?=some fv→ss[i]?=some s→∃g fi cap,fv = .func (.func g) fi cap∧∀x,Q i x→aH Tryz.prog g (fi.toList++cap.toList) [kW tb bs jb tv false,I x] (fun r H=>∃(e:Nat) (x':σ),r = .int .i64 (e:Int)∧H=[kW tb bs jb tv false,I x']∧s x e x'∧(e=0→Q (i+1) x')))(x0:σ)(hQ:Q 0 x0) :
  aH Tryz.prog 49 [ptr tb,v] [V,kW tb bs jb tv false,I x0] (fun r H=>∃(e:Nat) (x':σ),r = .int .i64 (e:Int)∧H=[V,kW tb bs jb tv (eQ e),I x']∧jG ss x0 e x'):=by
 unfold kW at cN ⊢
 obtain⟨a,c,rfl⟩:=hv.shape
 refine aH.aC Tryz.func49 Tryz.ntmps49 fun G F R hE=>?_
 refine go ?_
 refine bF (fun y:Nat × σ=>y.1≤me.length∧Q y.1 y.2∧∀e x',jG (ss.drop y.1) y.2 e x'→jG ss x0 e x') (fun y=>me.length-y.1)
  (fun y=>[(0,ptr tb),(8,.slice a me.length c),(9,.int .i64 (me.length:Int)),(10,.int .i64 (y.1:Int))])
  (fun y=>V::ak tb (cl [ptr bs,ptr jb,tv,.bool false] 101)::I y.2::F) (0,x0) ⟨Nat.zero_le _,hQ,fun _ _ h=>h⟩ rfl cF ad ?_
 rintro⟨i,x⟩⟨hi,hq,hr⟩ ih
 simp only at hi hq hr
 dsimp only
 refine go ?_
 refine aB zr zr ?_ ?_
 ·intro dk
  have l9:i<me.length:=by omega
  obtain⟨fv,mA⟩:∃fv,me[i]?=some fv:=⟨me[i],List.getElem?_eq_getElem l9⟩
  obtain⟨s,hs⟩:∃s,ss[i]?=some s:=⟨ss[i],List.getElem?_eq_getElem aj⟩
  obtain⟨g,fi,cap,rfl,hc⟩:=cN i fv s mA hs
  have ke:ss.drop i=s::ss.drop (i+1):=by
   rw[List.drop_eq_getElem_cons aj]
   grind
  obtain⟨b0,o0,c0,tT⟩:=hv.some (by intro h;rw[h]at l9;simp at l9)
  simp only[Value.slice.injEq]at tT
  obtain⟨rfl,-,rfl⟩:=tT
  refine go ?_
  refine bW i zr zr zr zr zr zr zr zr l9 ?_
  refine aZ 0 i zr zr zr hv rfl mA zr zr (go ?_)
  refine zX zr zr zr (by simp) (hc x hq) ad ?_ bI
  rintro _ _⟨e,x',rfl,rfl,J2,Q6⟩
  by_cases tT:e=0
  ·subst tT
   refine go ?_
   refine aQ ih (i+1,x') rfl (⟨by simp only;omega,Q6 rfl,fun e2 x2 h2=>hr e2 x2 (by rw[ke];exact⟨0,x',J2,.inr ⟨rfl,h2⟩⟩)⟩) (by simp only;omega) cF ad
  have iJ:jG ss x0 e x':=hr e x' (by rw[ke];exact⟨e,x',J2,.inl ⟨tT,rfl,rfl⟩⟩)
  clear ih
  by_cases Q1:e=1∨e=5∨e=11∨e=8
  ·have hb:eQ e=false:=decide_eq_false aj
   rcases Q1 with rfl|rfl|rfl|rfl
   all_goals(
    refine go ?_
    ((refine ah hE Tryz.func49 zr zr ⟨_,x',rfl,rfl,iJ⟩)))
  ·have hb:eQ e=true:=decide_eq_true aj
   refine go ?_
   refine aB zr zr ?_ ?_
   ·grind
   intro _
   refine go ?_
   refine aB zr zr ?_ ?_
   ·grind
   intro _
   refine go ?_
   refine aB zr zr ?_ ?_
   ·grind
   intro _
   refine go ?_
   refine aB zr zr ?_ ?_
   ·grind
   intro _
   refine go ?_
   refine aB zr zr ?_ ?_
   ·grind
   intro _
   refine go ?_
   refine al (H':=V::ak tb (cl [ptr bs,ptr jb,tv,.bool true] 101)::I x'::F) ad ?_
   rw[← hb]
   refine ah hE Tryz.func49 zr zr ⟨e,x',rfl,rfl,iJ⟩
 ·intro fO
  have e9:i=me.length:=by omega
  subst e9
  clear ih
  have h0:jG ss x0 0 x:=hr 0 x (by rw[List.drop_eq_nil_of_le aj];exact⟨rfl,rfl⟩)
  refine go ?_
  refine ah hE Tryz.func49 zr zr ⟨0,x,rfl,rfl,h0⟩
def Tj{ts:List Tk}{i:Nat}(h:i<ts.length):ts.map dm≠[]:=fun e=>by have:=congrArg List.length e;simp at this;rw[this]at h;simp at h
def lX(ts:List Tk)(x:Bl):Option Tk:=ts.find? fun y=>decide (y.x=x)
def tkV(o:Option Tk):Value:=match o with
 | none => .pointer none
 | some y=>ptr y.yb
def w7(A X:HP)(v:Value)(l:List Tk)(hv:Vw A v l.length (l.map dm))(hlen:l.length≤1000000)(g:FuncId)(cap:List Value)(p:Tk→Bool)(hf:∀x∈l,aH Tryz.prog g (ptr x.yb::cap) [X] (fun v H=>v = .bool (p x)∧H=[X])) :
  aH Tryz.prog 125 [v,.func (.func g) #[] cap.toArray] [A,X] (fun r H=>r = .int .i64 (jt p l)∧H=[A,X]):=by
 obtain⟨a,c0,rfl⟩:=hv.shape
 refine aH.enter Tryz.func125 aw rfl Tryz.ntmps125 zr zr ?_
 intro G F R hR
 refine go ?_
 refine bF (fun i:Nat=>i≤l.length∧∀y∈l.take i,p y=false) (fun i=>l.length-i) (fun i=>[(0,.slice a l.length c0),(1,.func (.func g) #[] cap.toArray),(7,.int .i64 l.length),(8,.int .i64 i)]) (fun _=>[A,X]++F) 0 ⟨by simp,by simp⟩ rfl cF (aq.refl _) ?_
 rintro i⟨hi,hb⟩ ih
 refine go ?_
 refine aB zr zr ?_ ?_
 ·intro dk
  refine go ?_
  have e9:i<l.length:=by omega
  obtain⟨x,hx⟩:∃x,l[i]?=some x:=⟨l[i],by simp[e9]⟩
  obtain⟨b,o,gV,ez⟩:=hv.some (Tj e9)
  simp only[Value.slice.injEq]at ez
  obtain⟨rfl,_,rfl⟩:=ez
  refine bW i zr zr zr zr zr zr zr zr e9 ?_
  refine aY ?_
  refine aZ 0 i zr zr zr hv rfl (vF hx) zr zr ?_
  refine bM [1] zr zr zr zr (hf x (List.mem_of_getElem? hx)) rfl bI ?_
  rintro _ _⟨rfl,rfl⟩
  refine go ?_
  refine eX zr zr ?_ ?_
  ·intro hp
   refine go ?_
   refine aG hR Tryz.func125 rfl _ rfl ⟨by rw[iY hx hp hb];rfl,rfl⟩ (aq.fin [1,0] 0 zr zr)
  ·intro hp
   refine go ?_
   refine aQ ih (i+1) rfl ⟨aj,n8 hb hx hp⟩ aj cF (aq.pick [1,0] rfl)
 ·intro fO
  refine go ?_
  have:i=l.length:=by omega
  subst this
  refine aG hR Tryz.func125 rfl _ rfl ⟨by rw[j9 (fun x hx=>hb x (by simpa using hx))];rfl,rfl⟩ (aq.fin [0,1] 0 zr zr)
def qR(A X:HP)(v:Value)(l:List Tk)(hv:Vw A v l.length (l.map dm))(hlen:l.length≤1000000)(g:FuncId)(cap:List Value)(p:Tk→Bool)(hf:∀x∈l,aH Tryz.prog g (ptr x.yb::cap) [X] (fun v H=>v = .bool (p x)∧H=[X])) :
  aH Tryz.prog 44 [v,.func (.func g) #[] cap.toArray] [A,X] (fun r H=>r = .bool (l.any p)∧H=[A,X]):=by
 refine aH.enter Tryz.func44 aw rfl Tryz.ntmps44 zr zr ?_
 intro G F R hR
 refine go ?_
 refine bM [0,1] zr zr zr zr (w7 A X v l hv hlen g cap p hf) rfl bI ?_
 rintro _ _⟨rfl,rfl⟩
 refine go ?_
 have hb:decide (0≤jt p l)=l.any p:=by
  rw[show decide (0≤jt p l)=decide (¬jt p l<0)from by rw[decide_eq_decide];omega]
  rw[Bool.eq_iff_iff,decide_eq_true_iff,nk (p:=p) (l:=l),Bool.not_eq_false]
 refine aG hR Tryz.func44 rfl _ rfl ⟨congrArg Value.bool hb,rfl⟩ (aq.fin [0,1] 0 zr zr)
def zb(ts:List Tk)(x:Bl)(bx:Nat)(y:Tk)(hy:y∈ts):aH Tryz.prog 45 [ptr y.yb,ptr bx] [Sep [bK ts,ak bx (cl (ck x) 31)] ] (fun r H=>r = .bool (decide (y.x.d=x.d))∧H=[Sep [bK ts,ak bx (cl (ck x) 31)] ]):=by
 obtain⟨i,hi⟩:=List.mem_iff_getElem?.1 hy
 refine aH.aC Tryz.func45 Tryz.ntmps45 fun G F R hE=>?_
 refine al (aq.cR [_,_] _) ?_
 refine al (pX hi _) ?_
 refine dZ (iF y) ?_
 rintro z hz
 refine al (H':=ak y.yb (cl (qT y) 107)::ak bx (cl (ck x) 31)::ak y.sb (cl [.int .i64 (y.n:Int),z.1] 225)::aK 159 1 z.1 y.ws.length (qV y.ws)::aV (Value.int .i64) y.mb z.2.1::bp 29 z.2.2::bK (ts.take i++ts.drop (i+1))::F) ad (go ?_)
 refine aO (fun w=>Sat G w ([ak y.yb (cl (qT y) 107),ak bx (cl (ck x) 31)])) (dM 0 9 .nil) rfl aw aw aw dI ?_
 refine go ?_
 refine cE (U:=bh) 0 zr zr zr zr zr zr (go ?_)
 refine cE (U:=bh) 1 zr zr zr zr zr zr (go ?_)
 refine lJ (b:=decide (y.x.d=x.d)) zr zr zr N7 (fun w=>Of y.x.d x.d w) ?_
 refine go ?_
 refine al (H':=zx y z++(bK (ts.take i++ts.drop (i+1))::ak bx (cl (ck x) 31)::F)) (by unfold zx;exact ad) ?_
 refine al (ld hz _) ?_
 refine al (sM hi _) ?_
 refine al (aq.cg [_,_] _) ?_
 refine ah hE Tryz.func45 zr zr ⟨rfl,rfl⟩
theorem DP(tb bs jb:Nat)(tv:Value)(br:Bool)(ts:List Tk)(x:Bl)(hl:ts.length≤1000000):aH Tryz.prog 70 [ptr tb,ix x] (lN tb bs jb tv ts br) (fun r H=>r=tkV (lX ts x)∧H=lN tb bs jb tv ts br):=by
  unfold lN ix
  refine aH.aC Tryz.func70 Tryz.ntmps70 fun G F R hE=>?_
  refine aM 1 rfl ?_
  rintro a c rfl
  refine eE 1 rfl ?_
  intro dH
  refine aP rfl ?_
  refine bJ zr zr bO ?_
  intro b3
  refine go ?_
  refine bF (fun i:Nat=>i≤ts.length∧∀y∈ts.take i,y.x≠x) (fun i=>ts.length-i) (fun i=>[(3,ptr b3),(10,.slice a ts.length c),(11,.int .i64 (ts.length:Int)),(12,.int .i64 (i:Int))])
    (fun _=>aK 103 1 (.slice a ts.length c) ts.length (ts.map dm)::bK ts::ak tb (cl [ptr bs,ptr jb,.slice a ts.length c,.bool br] 101)::ak b3 (cl (ck x) 31)::F) 0 ⟨Nat.zero_le _,by simp⟩ rfl cF ad ?_
  rintro i⟨hi,hb⟩ ih
  refine go ?_
  refine aB zr zr ?_ ?_
  · intro dk
    have e9:i<ts.length:=by omega
    obtain⟨y,hx⟩:∃x,ts[i]?=some x:=⟨ts[i],by simp[e9]⟩
    obtain⟨b,o,gV,ez⟩:=dH.some (Tj e9)
    simp only[Value.slice.injEq]at ez
    obtain⟨rfl,_,rfl⟩:=ez
    refine go ?_
    refine bW i zr zr zr zr zr zr zr zr e9 ?_
    refine aY ?_
    refine aZ 0 i zr zr zr dH rfl (vF hx) zr zr (go ?_)
    refine al (H':=bK ts::aK 103 1 (.slice (some ⟨b,o,none⟩) ts.length c) ts.length (ts.map dm)::ak tb (cl [ptr bs,ptr jb,.slice (some ⟨b,o,none⟩) ts.length c,.bool br] 101)::ak b3 (cl (ck x) 31)::F) ad ?_
    refine al (pX hx _) ?_
    refine dZ (iF y) ?_
    rintro z hz
    refine al (H':=ak y.yb (cl (qT y) 107)::ak b3 (cl (ck x) 31)::ak y.sb (cl [.int .i64 (y.n:Int),z.1] 225)::aK 159 1 z.1 y.ws.length (qV y.ws)::aV (Value.int .i64) y.mb z.2.1::bp 29 z.2.2::bK (ts.take i++ts.drop (i+1))::aK 103 1 (.slice (some ⟨b,o,none⟩) ts.length c) ts.length (ts.map dm)::ak tb (cl [ptr bs,ptr jb,.slice (some ⟨b,o,none⟩) ts.length c,.bool br] 101)::F) ad ?_
    refine aO (fun w=>Sat G w ([ak y.yb (cl (qT y) 107),ak b3 (cl (ck x) 31)])) (dM 0 6 .nil) rfl aw aw aw dI ?_
    refine go ?_
    refine cE (U:=bh) (cs:=ck y.x) 0 zr zr zr zr zr zr (go ?_)
    refine dv (U:=bh) (l:=ck x) 1 zr zr zr zr zr zr (go ?_)
    refine lJ (b:=decide (y.x=x)) zr zr zr aaK (fun w=>aaO y.x x w) ?_
    by_cases QU:y.x=x
    · rw[decide_eq_true QU]
      have xe:lX ts x=some y:=by
        unfold lX
        rw[Jg hx,List.find?_append,List.find?_eq_none.2 (fun w hw=>by simpa using hb w hw)]
        simp[QU]
      rw[xe]at hE
      refine go ?_
      refine al (H':=zx y z++(bK (ts.take i++ts.drop (i+1))::ak tb (cl [ptr bs,ptr jb,.slice (some ⟨b,o,none⟩) ts.length c,.bool br] 101)::aK 103 1 (.slice (some ⟨b,o,none⟩) ts.length c) ts.length (ts.map dm)::F)) (by unfold zx;exact ad) ?_
      refine al (ld hz _) ?_
      refine al (sM hx _) ?_
      refine al (H':=ak tb (cl [ptr bs,ptr jb,.slice (some ⟨b,o,none⟩) ts.length c,.bool br] 101)::aK 103 1 (.slice (some ⟨b,o,none⟩) ts.length c) ts.length (ts.map dm)::bK ts::F) ad ?_
      refine ah hE Tryz.func70 zr zr ⟨rfl,rfl⟩
    · rw[decide_eq_false QU]
      refine go ?_
      refine al (H':=zx y z++(bK (ts.take i++ts.drop (i+1))::aK 103 1 (.slice (some ⟨b,o,none⟩) ts.length c) ts.length (ts.map dm)::ak tb (cl [ptr bs,ptr jb,.slice (some ⟨b,o,none⟩) ts.length c,.bool br] 101)::ak b3 (cl (ck x) 31)::F)) (by unfold zx;exact ad) ?_
      refine al (ld hz _) ?_
      refine al (sM hx _) ?_
      refine al (H':=aK 103 1 (.slice (some ⟨b,o,none⟩) ts.length c) ts.length (ts.map dm)::bK ts::ak tb (cl [ptr bs,ptr jb,.slice (some ⟨b,o,none⟩) ts.length c,.bool br] 101)::ak b3 (cl (ck x) 31)::F) ad ?_
      refine aQ ih (i+1) rfl (⟨aj,fun w hw=>by
        rw[List.take_add_one,hx,Option.toList_some]at hw
        rcases List.mem_append.1 hw with h|h
        · exact hb w h
        · rw[List.mem_singleton.1 h];exact QU⟩) aj cF ad
  · intro fO
    have ue:i=ts.length:=by omega
    subst ue
    have xe:lX ts x=none:=by
      grind [lX]
    rw[xe]at hE
    clear ih
    refine go ?_
    refine al (H':=ak tb (cl [ptr bs,ptr jb,.slice a ts.length c,.bool br] 101)::aK 103 1 (.slice a ts.length c) ts.length (ts.map dm)::bK ts::F) ad ?_
    refine ah hE Tryz.func70 zr zr ⟨rfl,rfl⟩
def jC(b2 b3 jb:Nat):List Value:=[.func (.func 126) #[] #[ptr b2,ptr b3],.func (.func 128) #[ptr jb] #[] ]
def xN(tb bs jb:Nat)(tv:Value)(a:Option Addr)(n c:Nat):aH Tryz.prog 47 [ptr tb,.slice a n c] [kW tb bs jb tv false]
  (fun r H=>∃b2 b3 row,r = .slice (some ⟨row,0,none⟩) 2 2∧H=[ak row (cl (jC b2 b3 jb) 94),ak b2 (cl [ptr tb] 43),ak b3 (cl [.slice a n c] 22),kW tb bs jb tv false]):=by
 unfold kW
 refine aH.aC Tryz.func47 Tryz.ntmps47 fun G F R hE=>?_
 refine aP rfl ?_
 refine bJ zr zr bO ?_
 intro b2
 refine bJ zr zr bO ?_
 intro b3
 refine go ?_
 refine az (cs:=jC b2 b3 jb) zr zr zr zr zr zr zr zr zr bO ?_
 intro row
 refine go ?_
 refine ah hE Tryz.func47 zr zr ⟨b2,b3,row,rfl,rfl⟩
def JQ(tb bs jb bd b2 b3:Nat)(tv:Value)(A:Ab)(x:JN)(Z:HP)(a:Option Addr)(c:Nat)(b:List UInt8)(hb:eU Z (.slice a b.length c) b)(hl:b.length≤9223372036854775807)(hs:0≤x.s∧x.s≤1000000000)(fD:A.writes.length≤1000000000) :
  aH Tryz.prog 126 [ptr b2,ptr b3] [kW tb bs jb tv false,aJ bd A,uY jb bd dF x,ak b2 (cl [ptr tb] 43),ak b3 (cl [.slice a b.length c] 22),Z]
  (fun r H=>r = .int .i64 ((eW dF A x b).1:Int)∧H=[kW tb bs jb tv false,aJ bd (eW dF A x b).2.1,uY jb bd dF (eW dF A x b).2.2,ak b2 (cl [ptr tb] 43),ak b3 (cl [.slice a b.length c] 22),Z]):=by
 have HD:=Ld jb bd dF A x Z _ b hb hl hs fD
 unfold kW
 refine aH.aC Tryz.func126 Tryz.ntmps126 fun G F R hE=>?_
 refine go ?_
 refine aO (fun w=>Sat G w ([ak tb (cl [ptr bs,ptr jb,tv,.bool false] 101),ak b2 (cl [ptr tb] 43),ak b3 (cl [.slice a b.length c] 22)])) (dM 0 5 (.act 5 (.st 6 .nil))) rfl aw aw aw dI ?_
 refine go ?_
 refine Vd HD ?_
 refine go ?_
 refine al (H':=ak tb (cl [ptr bs,ptr jb,tv,.bool false] 101)::aJ bd (eW dF A x b).2.1::uY jb bd dF (eW dF A x b).2.2::ak b2 (cl [ptr tb] 43)::ak b3 (cl [.slice a b.length c] 22)::Z::F) ad ?_
 refine ah hE Tryz.func126 zr zr ⟨rfl,rfl⟩
def HZ(tb bs jb bd b2 b3:Nat)(q:Int)(hq:0≤q∧q≤1073741824)(mb:Nat)(tv:Value)(s:fW)(x:Bl)(RA:qS s.bu)(cN:s.A.aF.length≤900000000)(fD:s.A.writes.length≤900000000) :
  aH Tryz.prog 46 [ptr b2,ptr b3] (kW tb bs jb tv false::(cV bs bd q mb s++[ak b2 (cl [ptr tb] 43),ak b3 (cl (ck x) 31)]))
  (fun r H=>∃(e:Nat) (t:fW),r = .int .i64 (e:Int)∧H=kW tb bs jb tv false::(cV bs bd q mb t++[ak b2 (cl [ptr tb] 43),ak b3 (cl (ck x) 31)])∧eh q x s e t):=by
 have y8:=IT bs bd q hq mb s x RA cN fD
 unfold ix at y8
 unfold kW
 refine aH.aC Tryz.func46 Tryz.ntmps46 fun G F R hE=>?_
 refine go ?_
 refine aO (fun w=>Sat G w ([ak tb (cl [ptr bs,ptr jb,tv,.bool false] 101),ak b2 (cl [ptr tb] 43),ak b3 (cl (ck x) 31)])) (dM 0 5 (.act 5 (.st 6 .nil))) rfl aw aw aw dI ?_
 refine go ?_
 refine dv (U:=bh) (l:=ck x) 2 zr zr zr zr zr zr (go ?_)
 refine fq rfl rfl rfl rfl y8 ad ?_ (fun _ _ w hp hw=>by obtain⟨_,_,rfl,rfl,_⟩:=hp;exact hw.cI ad)
 rintro _ _⟨e,t,rfl,rfl,hR⟩
 refine go ?_
 refine al (H':=ak tb (cl [ptr bs,ptr jb,tv,.bool false] 101)::(cV bs bd q mb t++(ak b2 (cl [ptr tb] 43)::ak b3 (cl (ck x) 31)::F))) ad ?_
 refine ah hE Tryz.func46 zr zr ⟨e,t,rfl,rfl,hR⟩
end Go.Proofs.YtlionahpheehaaaGreatDoor
namespace Go.Proofs.YtlionahpheehaaaGreatDoor
open Go Go.SL
def nK:Int→List (List UInt8)→List (Int × List UInt8)
 | _,[]=>[]
 | i,x::l=>(i,x)::nK (i+1) l
def xH(k:UInt8)(d:Dg)(ls:List (List UInt8)):List (Int × List UInt8):=(1,[k])::(2,d.bs)::nK 3 ls
def jB(k:UInt8)(d:Dg)(ls:List (List UInt8)):List UInt8:=cU (xH k d ls)
theorem Gw:∀(i:Int) (l:List (List UInt8)) (x:List UInt8),nK i (l++[x])=nK i l++[(i+l.length,x)]
 | i,[],x=>by simp[nK]
 | i,y::l,x=>by
  simp only[List.cons_append,nK,Gw (i+1) l x,List.length_cons,List.cons_append]
  grind
theorem xG:∀(i:Int) (l:List (List UInt8)) (last:Int),last<i→i+l.length≤64→fA last (nK i l)=true
 | i,[],last,h,h2=>rfl
 | i,y::l,last,h,h2=>by
  simp only[nK,fA,List.length_cons]at h2 ⊢
  rw[decide_eq_true h,decide_eq_true (show i≤63 by omega),xG (i+1) l i aj aj]
  rfl
theorem NB{n:Int}{b:List UInt8}(h:b.length≤32):(ig (n,b)).length≤34:=by
 grind [uv,gi,ig]
theorem AA:∀(i:Int) (l:List (List UInt8)) (z:Int × List UInt8),z∈nK i l→z.2∈l
 | i,[],z,h=>by cases h
 | i,y::l,z,h=>by
  rcases List.mem_cons.1 h with rfl|h
  ·grind
  ·exact List.mem_cons_of_mem _ (AA (i+1) l z h)
theorem vO:∀(i:Int) (l:List (List UInt8)),(nK i l).length=l.length
 | i,[]=>rfl
 | i,y::l=>by simp[nK,vO (i+1) l]
theorem Lr:∀(l:List (Int × List UInt8)),(∀z∈l,z.2.length≤32)→(cU l).length≤34*l.length
 | [],_=>by simp[cU]
 | z::l,h=>by
  have h1:=Lr l (fun w hw=>h w (List.mem_cons_of_mem _ hw))
  grind [NB,cU,ig]
theorem jA(k:UInt8)(d:Dg)(ls:List (List UInt8))(hl:ls.length≤20)(hx:∀x∈ls,x.length≤32):(jB k d ls).length≤748:=by
 have:=Lr (xH k d ls) (fun z hz=>by
  unfold xH at hz
  rcases List.mem_cons.1 hz with rfl|hz
  ·simp
  rcases List.mem_cons.1 hz with rfl|hz
  ·simp only;rw[d.len];omega
  ·exact hx _ (AA 3 ls z hz))
 grind [xH,vO,jB]
theorem MZ(k:UInt8)(d:Dg)(ls:List (List UInt8))(hl:ls.length≤20):fA 0 (xH k d ls)=true:=by
 grind [xH,fA,xG]
attribute [local irreducible] J K aH Ends ak aK aV bX bj aS bp bD cp aJ
theorem qf(k:UInt8)(d:Dg)(Z:HP)(mv:Value)(ls:List (List UInt8))(hv:xh Z mv ls)(hl:ls.length≤20)(aeu:∀x∈ls,x.length≤32) :
  aH Tryz.prog 129 [u8 k,dV d,mv] [Z] (fun r H=>H=[aK 5 1 r (jB k d ls).length (bV (jB k d ls)),Z]):=by
 have w9:=jA k d ls hl aeu
 have hrr:=MZ k d ls hl
 obtain⟨cs,dH,kJ,⟨a2,c2,rfl,qu⟩,qP⟩:=hv
 unfold dV
 refine aH.aC Tryz.func129 Tryz.ntmps129 fun G F R hE=>?_
 refine aP rfl ?_
 refine bJ zr zr bO ?_
 intro b4
 refine go ?_
 refine az (cs:=bV [k]) zr zr zr zr zr zr zr zr zr bO ?_
 intro r0
 refine go ?_
 refine iP (U:=bh) zr zr zr zr zr (go ?_)
 obtain⟨zp,Bf⟩:∃zp:List It,zp=[⟨1,.slice (some ⟨r0,0,none⟩) 1 1,[k]⟩,⟨2,.slice (some ⟨b4,0,none⟩) 32 32,d.bs⟩]:=⟨_,rfl⟩
 have h2l:zp.length=2:=by rw[Bf];rfl
 refine az (cs:=zp.flatMap kq) zr zr zr zr zr zr zr zr (by rw[Bf];rfl) bO ?_
 intro row
 refine go ?_
 obtain⟨Y,hY⟩:∃Y,Y=Sep [ak r0 (cl (bV [k]) 5),ak b4 (cl (dC d) 29),Z]:=⟨_,rfl⟩
 have hYZ:∀h,Y h→∃h',sub h' h∧Z h':=by rw[hY];exact aX (i:=2) rfl
 have hB0:∀z∈zp,eU Y z.v z.b:=by
  intro z hz
  rw[Bf]at hz
  simp only[List.mem_cons,List.not_mem_nil,or_false]at hz
  rcases hz with rfl|rfl
  ·rw[hY];exact eU.mono (⟨Vw.ak rfl,_,_,rfl,Nat.le_refl _⟩) (aX (i:=0) rfl)
  ·rw[hY];exact(eU.block d.len (fg d)).mono (aX (i:=1) rfl)
 have zq:zp.map It.p=(1,[k])::(2,d.bs)::nK 3 (ls.take 0):=by rw[Bf];rfl
 refine al (H':=aK 127 2 (.slice (some ⟨row,0,none⟩) zp.length 2) zp.length (zp.flatMap kq)::Y::F) ?_ ?_
 ·rw[hY]
  refine aq.trans (H2:=ak r0 (cl (bV [k]) 5)::ak b4 (cl (dC d) 29)::Z::ak row (cl (zp.flatMap kq++[]) 127)::F) (by rw[List.append_nil];exact ad) ?_
  refine(aq.cg [_,_,_] _).trans ?_
  refine(aq.perm (List.Perm.swap ..)).trans ?_
  rw[h2l]
  exact fp 127 2 row 2 2 (zp.flatMap kq) [] _ (by rw[Bf];rfl) (Nat.le_refl _) (by rw[Bf];simp[kq])
 refine bF (fun y:Nat × List It × Option Addr × Nat=>y.1≤ls.length∧y.2.1.map It.p=(1,[k])::(2,d.bs)::nK 3 (ls.take y.1)∧∀z∈y.2.1,eU Y z.v z.b) (fun y=>ls.length-y.1)
  (fun y=>[(7,.slice y.2.2.1 y.2.1.length y.2.2.2),(18,.slice a2 ls.length c2),(19,.int .i64 (ls.length:Int)),(20,.int .i64 (y.1:Int))])
  (fun y=>aK 127 2 (.slice y.2.2.1 y.2.1.length y.2.2.2) y.2.1.length (y.2.1.flatMap kq)::Y::F) (0,zp,some ⟨row,0,none⟩,2) ⟨Nat.zero_le _,zq,hB0⟩ rfl (by rw[h2l];exact cF) ad ?_
 clear zq hB0 h2l Bf
 rintro⟨i,eu,ia,ic⟩⟨hi,mO,vv⟩ ih
 simp only at hi mO vv
 dsimp only
 have ads:eu.length=i+2:=by
  have:=congrArg List.length mO
  grind [vO]
 refine go ?_
 refine aB zr zr ?_ ?_
 ·intro dk
  have e9:i<ls.length:=by omega
  obtain⟨x,hx⟩:∃x,ls[i]?=some x:=⟨ls[i],by simp⟩
  obtain⟨cv,y7,DF⟩:=qP i x hx
  obtain⟨xa,xc,rfl,hxc⟩:=DF.2
  obtain⟨b,o,gV,ez⟩:=dH.some (by intro h;rw[h]at kJ;simp at kJ;omega)
  simp only[Value.slice.injEq]at ez
  obtain⟨rfl,_,rfl⟩:=ez
  have aey:=dH.mono hYZ
  refine go ?_
  refine bW i zr zr zr zr zr zr zr zr e9 ?_
  refine aY ?_
  refine aZ 1 i zr zr zr aey rfl y7 zr zr (go ?_)
  refine az (cs:=kq ⟨3+(i:Int),.slice xa x.length xc,x⟩) zr zr zr zr zr zr zr zr zr bO ?_
  intro PU
  refine go ?_
  refine bg (mm:=1) (news:=kq ⟨3+(i:Int),.slice xa x.length xc,x⟩) 1 0 rfl rfl rfl rfl rfl rfl rfl rfl rfl rfl rfl rfl (Vw.ak rfl) rfl (by intro v hv;simp[kq]at hv;rcases hv with rfl|rfl <;> rfl) aj (by show(_+_)*32≤_;omega) (fun _=>rfl) bO ?_
  intro v1
  rw[show eu.flatMap kq++kq (⟨3+(i:Int),.slice xa x.length xc,x⟩:It)=(eu++[(⟨3+(i:Int),.slice xa x.length xc,x⟩:It)]).flatMap kq from by simp,show eu.length+1=(eu++[(⟨3+(i:Int),.slice xa x.length xc,x⟩:It)]).length from by simp]
  refine aN 1 rfl ?_
  rintro ja jc rfl
  have Rs:(eu++[(⟨3+(i:Int),.slice xa x.length xc,x⟩:It)]).map It.p=(1,[k])::(2,d.bs)::nK 3 (ls.take (i+1)):=by
   rw[List.map_append,mO,List.take_add_one,hx,Option.toList_some,Gw,List.length_take,Nat.min_eq_left aj]
   rfl
  refine go ?_
  refine aQ ih (i+1,eu++[(⟨3+(i:Int),.slice xa x.length xc,x⟩:It)],ja,jc) rfl ⟨by simp only;omega,Rs,fun z hz=>(by rcases List.mem_append.1 hz with h|h;exact vv z h;rw[List.mem_singleton.1 h];exact DF.mono hYZ)⟩ (by simp only;omega) cF ad
 ·intro fO
  have ue:i=ls.length:=by omega
  subst ue
  rw[List.take_length]at mO
  have aav:eu.map It.p=xH k d ls:=mO
  clear ih
  refine eE 0 rfl ?_
  intro SU
  have Bi:=lD (Sep [aK 127 2 (.slice ia eu.length ic) eu.length (eu.flatMap kq),Y]) (.slice ia eu.length ic) eu ⟨SU.mono (aX (i:=0) rfl),fun z hz=>(vv z hz).mono (aX (i:=1) rfl)⟩ aj (by rw[aav];exact hrr) (by rw[aav];exact Nat.le_trans w9 aj)
  rw[aav]at Bi
  refine go ?_
  refine aT (aq.cg [_,_] _) ?_
  refine ao Bi ?_
  rintro _ _⟨rr,rfl,rfl⟩
  refine go ?_
  refine al (aq.cons _ (aq.cR [_,_] _)) ?_
  refine al (H':=Y::aK 5 1 rr (jB k d ls).length (bV (jB k d ls))::F) ad ?_
  rw[hY]
  refine al (aq.cR [_,_,_] _) ?_
  refine al (H':=aK 5 1 rr (jB k d ls).length (bV (jB k d ls))::Z::F) ad ?_
  refine aG hE Tryz.func129 rfl _ zr zr ad
def jv(x:Bl):List (List UInt8):=[uv x.size.toNat,uv x.piece.toNat,x.root.bs]
def cm(x:Bl):List UInt8:=jB 1 x.d (jv x)
theorem nC(x:Bl)(hs:x.size≤1000000000000)(hp:x.piece≤1000000000000):∀b∈jv x,b.length≤32:=fun b hb=>by
 simp only[jv,List.mem_cons,List.not_mem_nil,or_false]at hb
 rcases hb with rfl|rfl|rfl
 ·grind [lL]
 ·grind [lL]
 ·rw[x.root.len];omega
def uw(x:Bl)(hs:0≤x.size∧x.size≤1000000000000)(hp:0≤x.piece∧x.piece≤1000000000000) :
  aH Tryz.prog 48 [ix x] [] (fun r H=>H=[aK 5 1 r (cm x).length (bV (cm x))]):=by
 obtain⟨sz,kr⟩:∃m:Nat,x.size=m:=⟨x.size.toNat,aj⟩
 obtain⟨pc,J7⟩:∃m:Nat,x.piece=m:=⟨x.piece.toNat,aj⟩
 have hlen:=nC x hs.2 hp.2
 unfold ix
 refine aH.aC Tryz.func48 Tryz.ntmps48 fun G F R hE=>?_
 refine aP rfl ?_
 refine bJ zr zr bO ?_
 intro b1
 refine go ?_
 refine aO (fun w=>Sat G w ([ak b1 (cl (ck x) 31)])) (dM 0 5 (dM 6 3 (.st 10 (.st 11 (.act 5 (.act 9 (.act 12 (.act 13 (.st 14 .nil))))))))) rfl aw aw aw dI ?_
 (repeat(first|refine g9 ?_|refine cE (U:=bh) 0 zr zr zr zr zr zr ?_|refine iP (U:=bh) zr zr zr zr zr ?_))
 refine au 7 ((.int .u64 (sz:Int))) rfl ((congrArg (Value.int .u64) kr)) ?_
 refine au 11 ((.int .u64 (pc:Int))) rfl ((congrArg (Value.int .u64) J7)) ?_
 refine bz (fK sz aj) ?_
 rintro r8 _ rfl
 refine aN 0 rfl ?_
 rintro a8 c8 rfl
 refine go ?_
 refine bz (fK pc aj) ?_
 rintro r9 _ rfl
 refine aN 0 rfl ?_
 rintro a9 c9 rfl
 refine fY (bs:=uv pc) 0 rfl ?_
 intro hb9
 refine fY (bs:=uv sz) 1 rfl ?_
 intro N2
 refine go ?_
 obtain⟨cs,pR⟩:∃cs:List Value,cs=[.slice a8 (uv sz).length c8,.slice a9 (uv pc).length c9,.slice (some ⟨b1,34,none⟩) 32 32]:=⟨_,rfl⟩
 refine az (cs:=cs) zr zr zr zr zr zr zr zr (by rw[pR];rfl) (fun _ _ hw=>hw.cI ad) ?_
 intro row
 have oq:xh (Sep [ak row (cl cs 22),aK 5 1 (.slice a8 (uv sz).length c8) (uv sz).length (bV (uv sz)),aK 5 1 (.slice a9 (uv pc).length c9) (uv pc).length (bV (uv pc)),ak b1 (cl (ck x) 31)]) (.slice (some ⟨row,0,none⟩) 3 3) (jv x):=by
  refine⟨cs,(Vw.ak (by rw[pR];rfl)).mono (aX (i:=0) rfl),by rw[pR];rfl,⟨_,_,rfl,Nat.le_refl _⟩,fun i y hy=>?_⟩
  have aeI:x.size.toNat=sz:=by omega
  have aeT:x.piece.toNat=pc:=by omega
  unfold jv at hy
  rw[aeI,aeT]at hy
  match i,hy with
  | 0,hy=>cases hy;exact⟨_,by rw[pR];rfl,N2.mono (aX (i:=1) rfl)⟩
  | 1,hy=>cases hy;exact⟨_,by rw[pR];rfl,hb9.mono (aX (i:=2) rfl)⟩
  | 2,hy=>cases hy;exact⟨_,by rw[pR];rfl,(eU.ZS x.root.len (by rw[← fg];exact UU x)).mono (aX (i:=3) rfl)⟩
  | i+3,hy=>simp at hy
 have Q5:=qf 1 x.d _ _ (jv x) oq (by simp[jv]) hlen
 unfold dV at Q5
 clear oq
 clear pR
 refine go ?_
 refine aT (aq.trans (H2:=ak row (cl cs 22)::aK 5 1 (.slice a8 (uv sz).length c8) (uv sz).length (bV (uv sz))::aK 5 1 (.slice a9 (uv pc).length c9) (uv pc).length (bV (uv pc))::ak b1 (cl (ck x) 31)::F) ad (aq.cg [_,_,_,_] _)) ?_
 refine fq rfl rfl rfl rfl Q5 ad ?_ (fun _ _ w hp hw=>by obtain rfl:=hp;exact hw.cI (aq.trans (aq.pick [1] rfl) (aq.trans (aq.cR [_,_,_,_] _) ad)))
 rintro rr _ rfl
 refine go ?_
 refine al (H':=aK 5 1 rr (cm x).length (bV (cm x))::F) ad ?_
 refine aG hE Tryz.func48 rfl _ zr zr ad
end Go.Proofs.YtlionahpheehaaaGreatDoor
namespace Go.Proofs.YtlionahpheehaaaGreatDoor
open Go Go.SL
def Oq(e:TypeId)(H:List HP):aq H (bp e []::H):=aq.sm H
attribute [local irreducible] J K aH Ends ak aK aV bX bj aS bp bD cp aJ
def DL(x:Bl):aH Tryz.prog 50 [ix x] [] (fun r H=>∃y:Tk,r=ptr y.yb∧H=[pY y]∧y.x=x∧(y.n:Int)=cT x∧y.ws=List.replicate ((y.n+63)/64) 0#64∧y.pf=fun _=>none):=by
 have kJ:=py x
 obtain⟨n,hn⟩:∃n:Nat,cT x=n:=⟨(cT x).toNat,aj⟩
 have hc:=yv x
 rw[hn]at hc
 have xW:=SM n aj
 unfold ix at hc ⊢
 unfold l4 at xW
 refine aH.aC Tryz.func50 Tryz.ntmps50 fun G F R hE=>?_
 refine aP rfl ?_
 refine bJ zr zr bO ?_
 intro b1
 refine go ?_
 refine aW (U:=bh) (l:=ck x) 0 zr zr zr zr zr zr ?_
 refine aeb hc ?_
 refine go ?_
 refine ao xW ?_
 rintro _ _⟨sb,wv,rfl,rfl⟩
 refine go ?_
 refine aT (H':=ak b1 (cl (ck x) 31)::ak sb (cl [.int .i64 (n:Int),wv] 225)::aK 159 1 wv (List.replicate ((n+63)/64) 0#64).length (qV (List.replicate ((n+63)/64) 0#64))::F) ad (go ?_)
 refine aW (U:=bh) (l:=ck x) 0 zr zr zr zr zr zr (go ?_)
 refine pL rfl bO ?_
 intro mb
 refine aT (aq.fold (B:=[_]) (A:=aV (Value.int .i64) mb []) (fun h hs=>⟨h,sub.refl h,oW (Value.int .i64) mb h (eO hs)⟩)) ?_
 refine go ?_
 refine bJ zr zr bO ?_
 intro yb
 refine go ?_
 obtain⟨y,hy⟩:∃y:Tk,y=⟨yb,sb,mb,x,n,List.replicate ((n+63)/64) 0#64,fun _=>none⟩:=⟨_,rfl⟩
 have hR:Mk (wv,[],[]) y:=fun k=>by rw[hy];rfl
 refine al (H':=zx y (wv,[],[])++F) ?_ ?_
 ·rw[hy]
  unfold zx
  exact aq.trans (Oq 29 _) ad
 refine al (ld hR F) ?_
 ((refine ah hE Tryz.func50 zr zr ⟨y,by rw[hy];rfl,rfl,by rw[hy],by rw[hy];exact hn.symm,by rw[hy],by rw[hy]⟩))
end Go.Proofs.YtlionahpheehaaaGreatDoor
namespace Go.Proofs.YtlionahpheehaaaGreatDoor
open Go Go.SL
def ZU(x:ku):ku:=(x >>> 1 &&& BitVec.ofInt 64 6148914691236517205)+(x &&& BitVec.ofInt 64 6148914691236517205)
def ZT(x:ku):ku:=(x >>> 2 &&& BitVec.ofInt 64 3689348814741910323)+(x &&& BitVec.ofInt 64 3689348814741910323)
def M9(x:ku):ku:=(x >>> 4+x) &&& BitVec.ofInt 64 1085102592571150095
def EH(k:Nat)(x:ku):ku:=x+x >>> k
def JI(x:ku):ku:=EH 32 (EH 16 (EH 8 (M9 (ZT (ZU x)))))
def JJ(y:ku):Int:=IntKind.i64.wrap ((BitVec.ofInt IntKind.i64.bits (IntKind.i64.wrap (y.toNat:Int)) &&& BitVec.ofInt IntKind.i64.bits 127).toNat:Int)
theorem Lu(y:ku):0≤JJ y∧JJ y≤127:=by
 have h:(BitVec.ofInt IntKind.i64.bits (IntKind.i64.wrap (y.toNat:Int)) &&& BitVec.ofInt IntKind.i64.bits 127).toNat≤127:=by
  rw[BitVec.toNat_and]
  exact Nat.le_trans Nat.and_le_right (by decide)
 grind [JJ,dr,js]
def mq(p:ku)(c:Int):IntKind.u64.wrap ((BitVec.ofInt IntKind.u64.bits (p.toNat:Int) &&& BitVec.ofInt IntKind.u64.bits c).toNat:Int)=((p &&& BitVec.ofInt 64 c).toNat:Int):=by
 rw[oS]
 exact nP (p &&& BitVec.ofInt 64 c)
def re(ws:List ku):Int:=(ws.map fun w=>JJ (JI w)).sum
theorem UR(ws:List ku):0≤re ws∧re ws≤127*ws.length:=by
 unfold re
 induction ws with
 | nil=>simp
 | cons w ws ih =>
  have:=Lu (JI w)
  grind
attribute [local irreducible] J K aH Ends ak aK aV bX bj aS bp bD cp aJ
def Ip(x:ku):aH Tryz.prog 156 [.int .u64 (x.toNat:Int)] [] (fun r H=>r = .int .i64 (JJ (JI x))∧H=[]):=by
 refine aH.aC Tryz.func156 Tryz.ntmps156 fun G F R hE=>?_
 refine go ?_
 refine sB (p:=x) 1 zr zr zr zr aj (go ?_)
 refine au 5 ((.int .u64 ((x >>> 1 &&& BitVec.ofInt 64 6148914691236517205).toNat:Int))) rfl ((congrArg (Value.int .u64) (mq _ _))) ?_
 refine au 7 ((.int .u64 ((x &&& BitVec.ofInt 64 6148914691236517205).toNat:Int))) rfl ((congrArg (Value.int .u64) (mq _ _))) ?_
 refine yr (p:=x >>> 1 &&& BitVec.ofInt 64 6148914691236517205) (q:=x &&& BitVec.ofInt 64 6148914691236517205) zr zr zr ?_
 rw[show(x >>> 1 &&& BitVec.ofInt 64 6148914691236517205)+(x &&& BitVec.ofInt 64 6148914691236517205)=ZU x from rfl]
 obtain⟨a,ha⟩:∃a,a=ZU x:=⟨_,rfl⟩
 rw[← ha]
 refine go ?_
 refine sB (p:=a) 2 zr zr zr zr aj (go ?_)
 refine au 11 ((.int .u64 ((a >>> 2 &&& BitVec.ofInt 64 3689348814741910323).toNat:Int))) rfl ((congrArg (Value.int .u64) (mq _ _))) ?_
 refine au 13 ((.int .u64 ((a &&& BitVec.ofInt 64 3689348814741910323).toNat:Int))) rfl ((congrArg (Value.int .u64) (mq _ _))) ?_
 refine yr (p:=a >>> 2 &&& BitVec.ofInt 64 3689348814741910323) (q:=a &&& BitVec.ofInt 64 3689348814741910323) zr zr zr ?_
 rw[show(a >>> 2 &&& BitVec.ofInt 64 3689348814741910323)+(a &&& BitVec.ofInt 64 3689348814741910323)=ZT a from rfl]
 obtain⟨b,hb⟩:∃b,b=ZT a:=⟨_,rfl⟩
 rw[← hb]
 refine go ?_
 refine sB (p:=b) 4 zr zr zr zr aj (go ?_)
 refine yr (p:=b >>> 4) (q:=b) zr zr zr (go ?_)
 refine au 20 ((.int .u64 ((M9 b).toNat:Int))) rfl ((congrArg (Value.int .u64) (mq _ _))) ?_
 refine au 21 ((.int .u64 ((M9 b).toNat:Int))) rfl ((congrArg (Value.int .u64) (mq _ _))) ?_
 obtain⟨c,hc⟩:∃c,c=M9 b:=⟨_,rfl⟩
 rw[← hc]
 refine sB (p:=c) 8 zr zr zr zr aj (go ?_)
 refine yr (p:=c) (q:=c >>> 8) zr zr zr ?_
 rw[show c+c >>> 8=EH 8 c from rfl]
 obtain⟨d,hd⟩:∃d,d=EH 8 c:=⟨_,rfl⟩
 rw[← hd]
 refine go ?_
 refine sB (p:=d) 16 zr zr zr zr aj (go ?_)
 refine yr (p:=d) (q:=d >>> 16) zr zr zr ?_
 rw[show d+d >>> 16=EH 16 d from rfl]
 obtain⟨e,he⟩:∃e,e=EH 16 d:=⟨_,rfl⟩
 rw[← he]
 refine go ?_
 refine sB (p:=e) 32 zr zr zr zr aj (go ?_)
 refine yr (p:=e) (q:=e >>> 32) zr zr zr ?_
 rw[show e+e >>> 32=EH 32 e from rfl,show EH 32 e=JI x from by rw[he,hd,hc,hb,ha];rfl]
 refine go ?_
 refine lB zr zr zr zr zr zr (go ?_)
 refine ah hE Tryz.func156 zr zr ⟨rfl,rfl⟩
def Lc(sb n:Nat)(wv:Value)(ws:List ku)(hl:ws.length≤65536):aH Tryz.prog 81 [ptr sb] (l4 sb n wv ws) (fun r H=>r = .int .i64 (re ws)∧H=l4 sb n wv ws):=by
 unfold l4
 refine aH.aC Tryz.func81 Tryz.ntmps81 fun G F R hE=>?_
 refine aM 1 rfl ?_
 rintro a c rfl
 refine eE 1 rfl ?_
 intro dH
 refine go ?_
 refine bF (fun i:Nat=>i≤ws.length) (fun i=>ws.length-i) (fun i=>[(3,.int .i64 (re (ws.take i))),(9,.slice a ws.length c),(10,.int .i64 (ws.length:Int)),(11,.int .i64 (i:Int))])
  (fun _=>ak sb (cl [.int .i64 (n:Int),.slice a ws.length c] 225)::aK 159 1 (.slice a ws.length c) ws.length (qV ws)::F) 0 (Nat.zero_le _) rfl cF ad ?_
 intro i hi ih
 have hcb:=UR (ws.take i)
 rw[List.length_take,Nat.min_eq_left hi]at hcb
 refine go ?_
 refine aB zr zr ?_ ?_
 ·intro dk
  have e9:i<ws.length:=by omega
  obtain⟨w,hw⟩:∃w,ws[i]?=some w:=⟨ws[i],by simp[e9]⟩
  have yX:re (ws.take (i+1))=re (ws.take i)+JJ (JI w):=by
   unfold re
   rw[List.take_add_one,hw];simp
  have Q9:=Lu (JI w)
  obtain⟨b,o,gV,ez⟩:=dH.some (qNe e9)
  simp only[Value.slice.injEq]at ez
  obtain⟨rfl,_,rfl⟩:=ez
  refine go ?_
  refine bW i zr zr zr zr zr zr zr zr e9 ?_
  refine aY ?_
  refine aZ 1 i zr zr zr dH rfl (JF hw) zr zr ?_
  unfold Pq
  refine go ?_
  refine aeb (Ip w) ?_
  refine go ?_
  refine aE 3 ((.int .i64 (re (ws.take (i+1))))) rfl ((congrArg (Value.int .i64) yX.symm)) ?_
  refine aQ ih (i+1) rfl aj aj cF ad
 ·intro fO
  have ue:i=ws.length:=by omega
  subst ue
  rw[List.take_length]
  clear ih
  refine go ?_
  refine ah hE Tryz.func81 zr zr ⟨rfl,rfl⟩
def Tk.put(y:Tk)(i:Nat)(l:List Dg):Tk:=⟨y.yb,y.sb,y.mb,y.x,y.n,jQ y.ws i true,fun j=>if j=(i:Int)then some l else y.pf j⟩
def F3(y:Tk)(i:Nat)(hi:i<y.n)(hn:y.n≤65536)(hw:y.n≤y.ws.length*64)(P:HP)(pv:Value)(l:List Dg)(hv:Vw P pv l.length (l.flatMap dC))(hl:l.length≤1000000) :
  aH Tryz.prog 79 [ptr y.yb,.int .i64 (i:Int),pv] [pY y,P] (fun r H=>r = .tuple #[]∧H=[pY (y.put i l),P]):=by
 have kJ:=Cc P pv l hv hl
 obtain⟨a,c,rfl⟩:=hv.shape
 refine aH.aC Tryz.func79 Tryz.ntmps79 fun G F R hE=>?_
 refine dZ (iF y) ?_
 rintro⟨wv,cs,M⟩ hz
 have mg:=IU y.sb y.n wv y.ws hn hw i hi true
 unfold l4 at mg
 refine al (H':=ak y.yb (cl (qT y) 107)::ak y.sb (cl [.int .i64 (y.n:Int),wv] 225)::aK 159 1 wv y.ws.length (qV y.ws)::aV (Value.int .i64) y.mb cs::bp 29 M::P::F) (by unfold zx;exact ad) ?_
 refine go ?_
 refine aeb mg ?_
 refine go ?_
 refine aO (fun w=>Sat G w ([ak y.yb (cl (qT y) 107)])) (dM 0 6 (.act 6 (.act 7 .nil))) rfl aw aw aw dI ?_
 refine go ?_
 refine bz kJ ?_
 rintro r8 _ rfl
 refine go ?_
 refine aT (H':=aV (Value.int .i64) y.mb cs::aK 29 32 r8 l.length (l.flatMap dC)::bp 29 M::ak y.yb (cl (qT y) 107)::ak y.sb (cl [.int .i64 (y.n:Int),wv] 225)::aK 159 1 wv (jQ y.ws i true).length (qV (jQ y.ws i true))::P::F) ad ?_
 refine jH (kv:=Value.int .i64) (es:=cs) (key:=(i:Int)) (v:=r8) 0 (EP Tryz.underlying3) eH zr zr zr zr zr zr zr zr (go ?_)
 refine al (aq.perm (List.Perm.swap ..)) ?_
 refine al (H':=aK 29 32 r8 l.length (l.flatMap dC)::bp 29 M::aV (Value.int .i64) y.mb (pC cs (i:Int) r8)::ak y.yb (cl (qT y) 107)::ak y.sb (cl [.int .i64 (y.n:Int),wv] 225)::aK 159 1 wv (jQ y.ws i true).length (qV (jQ y.ws i true))::P::F) ad ?_
 refine al (aq.join _ _ _) ?_
 refine dZ (Gn 29 32 l.length r8 (l.flatMap dC) M) ?_
 rintro M'⟨afI,eg⟩
 have hz':Mk (wv,pC cs (i:Int) r8,M') (y.put i l):=Mk.put hz (i:Int) r8 wv l M' eg afI _ rfl
 refine al (H':=zx (y.put i l) (wv,pC cs (i:Int) r8,M')++(P::F)) (by unfold zx;exact ad) ?_
 refine al (ld hz' _) ?_
 refine ag hE Tryz.func79 rfl _ rfl ⟨rfl,rfl⟩ ad
theorem yd{ts:List Tk}{x:Bl}{y:Tk}(h:lX ts x=some y):∃i:Nat,ts[i]?=some y∧y.x=x:=by
 unfold lX at h
 have h1:=List.find?_some h
 obtain⟨i,hi⟩:=List.mem_iff_getElem?.1 (List.mem_of_find?_eq_some h)
 grind
theorem uC(v:Value)(l:List Tk)(X:HP)(g:FuncId)(cap:List Value)(p:Tk→Bool)(hlen:l.length≤1000000)(hf:∀x∈l,aH Tryz.prog g (ptr x.yb::cap) [X] (fun v H=>v = .bool (p x)∧H=[X])) :
  aH Tryz.prog 189 [v,.func (.func g) #[] cap.toArray] [aK 103 1 v l.length (l.map dm),X]
   (fun r H=>H=[aK 103 1 r (l.filter fun x => !p x).length ((l.filter fun x => !p x).map dm),X]):=by
 refine aH.aC Tryz.func189 Tryz.ntmps189 fun G F R hE=>?_
 refine aM 0 rfl ?_
 rintro a0 c rfl
 refine go ?_
 refine eZ 0 rfl ?_
 intro hv
 refine bM [0,1] zr zr zr zr (w7 _ X _ l hv hlen g cap p hf) rfl bI ?_
 rintro _ _⟨rfl,rfl⟩
 refine go ?_
 refine aB zr zr ?_ ?_
 ·intro h0
  have mJ:l.any p=false:=nk.1 aj
  have pQ:(l.filter fun x => !p x)=l:=List.filter_eq_self.2 fun x hx=>by
   grind
  rw[pQ]at hE
  refine go ?_
  refine aG hE Tryz.func189 rfl _ zr zr (aq.fin [0,1] 0 zr zr)
 ·intro h0
  obtain⟨i0,x0,DC,Z',zq,u4⟩:=A9 h0
  have afb:i0<l.length:=by
   grind
  rw[DC]
  refine go ?_
  refine vh (fun a kX hn _=>by omega) ?_
  rintro b o c' pre junk rk mH hnc jE kJ
  simp only[Value.slice.injEq,true_and]at rk
  obtain⟨rfl,rfl⟩:=rk
  have h1:l.take (i0+1)=l.take i0++[x0]:=by rw[List.take_add_one,Z'];rfl
  have L2:(l.take i0).filter (fun x => !p x)=l.take i0:=List.filter_eq_self.2 fun x hx=>by simp[u4 x hx]
  refine bF (fun s:Nat × Nat × List Tk=>s.1<s.2.1∧s.2.1≤l.length∧s.2.2.length=l.length∧s.2.2.take s.1=(l.take s.2.1).filter (fun x => !p x)∧s.2.2.drop s.2.1=l.drop s.2.1) (fun s=>l.length-s.2.1)
   (fun s=>[(0,.slice (some ⟨b,o,none⟩) l.length c),(1,.func (.func g) #[] cap.toArray),(5,.int .i64 s.1),(6,.int .i64 s.2.1)])
   (fun s=>ak b (cl (pre++s.2.2.map dm++junk) 103)::X::F) (i0,i0+1,l) ⟨by simp,by simp only;omega,rfl,by simp only[h1,List.filter_append,L2];simp[zq],rfl⟩ rfl cF (aq.refl _) ?_
  rintro⟨i,j,E⟩⟨L1,I2,Ta,HE,Uy⟩ ih
  simp only at L1 I2 Ta HE Uy
  have fD:(E.map dm).length=l.length:=by rw[List.length_map,Ta]
  have hvE:Vw (ak b (cl (pre++E.map dm++junk) 103)) (.slice (some ⟨b,o,none⟩) l.length c) l.length (E.map dm):=Vw.ak (by rw[List.append_assoc,← mH,List.drop_left,List.take_left])
  refine go ?_
  refine aB zr zr ?_ ?_
  ·intro dk
   simp only at dk
   have tP:j<l.length:=by omega
   obtain⟨x,hx⟩:∃x,l[j]?=some x:=⟨l[j],by simp[tP]⟩
   have hEx:E[j]?=some x:=by
    have:=congrArg (·[0]?) Uy
    grind
   have fk:=List.mem_of_getElem? hx
   have Rv:=hf _ fk
   refine go ?_
   refine bW j zr zr zr zr zr zr zr zr tP ?_
   refine aY ?_
   refine aZ 0 j zr zr zr hvE rfl (vF hEx) zr zr (go ?_)
   refine bM [1] zr zr zr zr (Rv) rfl bI ?_
   rintro _ _⟨rfl,rfl⟩
   refine go ?_
   refine eX zr zr ?_ ?_
   ·intro hp
    have yY:p x=false:=by simpa using hp
    refine go ?_
    refine bW i zr zr zr zr zr zr zr zr aj ?_
    refine lA (U:=bh) (l':=pre++(E.set i x).map dm++junk) 1 eH zr zr zr zr zr zr zr ?_ ?_ rfl ?_
    ·show o+i+1≤_
     rw[List.length_append,List.length_append,fD];omega
    ·show _=List.take (o+i) (pre++E.map dm++junk)++[dm x]++List.drop (o+i+1) (pre++E.map dm++junk)
     have hs:=p8 pre (E.map dm) junk [dm x] i (by rw[fD];simp only[List.length_singleton];omega)
     rw[← mH]
     simp only[List.length_singleton]at hs
     rw[hs,List.map_set,List.set_eq_take_append_cons_drop,if_pos (by rw[fD];omega)]
     simp
    refine go ?_
    refine aQ ih (i+1,j+1,E.set i x) rfl ⟨by simp only;omega,by simp only;omega,by simp only[List.length_set];exact Ta,?_,?_⟩ (by simp only;omega) cF ad
    ·simp only
     rw[List.take_add_one,List.take_set_of_le (Nat.le_refl i),HE,List.take_add_one (l:=l),hx,List.getElem?_set_self aj]
     simp[List.filter_append,yY]
    ·simp only
     rw[List.drop_set_of_lt aj,← List.drop_drop,Uy,List.drop_drop]
   ·intro hp
    have yY:p x=true:=by simpa using hp
    refine go ?_
    refine aQ ih (i,j+1,E) rfl ⟨by simp only;omega,by simp only;omega,Ta,by simp only;rw[HE,List.take_add_one,hx];simp[List.filter_append,yY],by simp only;rw[← List.drop_drop,Uy,List.drop_drop]⟩ (by simp only;omega) cF ad
  ·intro fO
   refine go ?_
   simp only at fO
   have I1:j=l.length:=by omega
   subst I1
   rw[List.take_length]at HE
   have Be:(l.filter fun x => !p x).length=i:=by rw[← HE,List.length_take];omega
   refine mS zr zr zr zr zr zr zr aj aj (.inl rfl) ?_
   intro o1 J' ho2
   simp only[Int.toNat_natCast]at J' ho2
   have Rb:i≠c→o1=o+i:=fun h=>by have h2:o1=o+i*1:=J' h;omega
   have hL:(pre++E.map dm++junk).length=o+l.length+junk.length:=by rw[List.length_append,List.length_append,fD,mH]
   obtain⟨tZ,Ro,ae9⟩:∃tZ,(pre++E.map dm++junk).take o1++(List.replicate (((l.length:Int).toNat-(i:Int).toNat)) [Value.pointer none]).flatten++(pre++E.map dm++junk).drop (o1+((l.length:Int).toNat-(i:Int).toNat)*1)=pre++(E.take i).map dm++tZ∧c*1≤i*1+tZ.length:=by
    have Uh:i≠c:=by omega
    rw[Rb Uh,← mH,List.append_assoc pre,List.take_length_add_append,List.take_append_of_le_length (by rw[fD];omega),List.map_take]
    grind [kL]
   refine FM (U:=bh) (l':=pre++(E.take i).map dm++tZ) 0 eH zr zr zr zr zr zr zr zr ?_ ?_ rfl ?_
   ·have Uh:i≠c:=by omega
    show o1+((l.length:Int).toNat-(i:Int).toNat)*1≤_
    rw[Rb Uh,hL];omega
   ·rw[← Ro];rfl
   refine go ?_
   refine mS zr zr zr zr zr zr zr aj aj (.inr aj) ?_
   intro o2 ho3 ho4
   have aaj:o2=o:=by
    grind
   subst aaj
   refine go ?_
   refine al (jP (sz:=1) (nn:=i) (c:=c) mH aj (by rw[List.length_map,List.length_take,Nat.min_eq_left aj];omega) (by rw[List.length_map,List.length_take];omega) _) ?_
   rw[← HE,HE,Be,← HE]at hE
   refine aG hE Tryz.func189 rfl _ zr zr (aq.fin [0,1] 0 zr zr)
def yG(ts:List Tk)(d:Dg)(bx:Nat)(y:Tk)(hy:y∈ts):aH Tryz.prog 190 [ptr y.yb,ptr bx] [Sep [bK ts,ak bx (cl (dC d) 29)] ] (fun r H=>r = .bool (decide (y.x.d=d))∧H=[Sep [bK ts,ak bx (cl (dC d) 29)] ]):=by
 obtain⟨i,hi⟩:=List.mem_iff_getElem?.1 hy
 refine aH.aC Tryz.func190 Tryz.ntmps190 fun G F R hE=>?_
 refine al (aq.cR [_,_] _) ?_
 refine al (pX hi _) ?_
 refine dZ (iF y) ?_
 rintro z hz
 refine al (H':=ak y.yb (cl (qT y) 107)::ak bx (cl (dC d) 29)::ak y.sb (cl [.int .i64 (y.n:Int),z.1] 225)::aK 159 1 z.1 y.ws.length (qV y.ws)::aV (Value.int .i64) y.mb z.2.1::bp 29 z.2.2::bK (ts.take i++ts.drop (i+1))::F) ad (go ?_)
 refine aO (fun w=>Sat G w ([ak y.yb (cl (qT y) 107),ak bx (cl (dC d) 29)])) (dM 0 8 .nil) rfl aw aw aw dI ?_
 refine go ?_
 refine cE (U:=bh) 0 zr zr zr zr zr zr (go ?_)
 refine dv (U:=bh) (l:=dC d) 1 zr zr zr zr zr zr (go ?_)
 refine lJ (b:=decide (y.x.d=d)) zr zr zr N7 (fun w=>Of y.x.d d w) ?_
 refine go ?_
 refine al (H':=zx y z++(bK (ts.take i++ts.drop (i+1))::ak bx (cl (dC d) 29)::F)) (by unfold zx;exact ad) ?_
 refine al (ld hz _) ?_
 refine al (sM hi _) ?_
 refine al (aq.cg [_,_] _) ?_
 refine ah hE Tryz.func190 zr zr ⟨rfl,rfl⟩
end Go.Proofs.YtlionahpheehaaaGreatDoor
namespace Go.Proofs.YtlionahpheehaaaGreatDoor
open Go Go.SL
def uH(q:Tk→Bool):∀(ts:List Tk) (H:List HP),aq (bK ts::H) (bK (ts.filter q)::H)
 | [],H=>aq.refl _
 | y::ts,H=>by
  have h1:aq (bK (y::ts)::H) (pY y::bK ts::H):=Em [] ts y H
  by_cases hq:q y=true
  ·rw[List.filter_cons_of_pos hq]
   have h2:aq (pY y::bK (ts.filter q)::H) (bK (y::ts.filter q)::H):=xr [] (ts.filter q) y H
   exact h1.trans ((aq.cons _ (uH q ts H)).trans h2)
  ·rw[List.filter_cons_of_neg hq]
   exact h1.trans ((aq.drop _ _).trans (uH q ts H))
def vr(ts:List Tk)(d:Dg):List Tk:=ts.filter fun y => !decide (y.x.d=d)
attribute [local irreducible] J K aH Ends ak aK aV bX bj aS bp bD cp aJ
def Ay(tb bs jb:Nat)(tv:Value)(br:Bool)(ts:List Tk)(d:Dg)(hl:ts.length≤1000000):aH Tryz.prog 112 [ptr tb,dV d] (lN tb bs jb tv ts br)
  (fun r H=>r = .tuple #[]∧∃sJ,H=lN tb bs jb sJ (vr ts d) br):=by
 refine aH.aC Tryz.func112 Tryz.ntmps112 fun G F R hE=>?_
 refine aM 1 rfl ?_
 rintro a c rfl
 refine aP rfl ?_
 refine bJ zr zr bO ?_
 intro b3
 refine go ?_
 refine aT (aq.pick [1,2,3] rfl) ?_
 refine aT (aq.cons _ (aq.cons _ (aq.cg [_,_] _))) (go ?_)
 refine ao (uC _ ts _ 190 [ptr b3] (fun y=>decide (y.x.d=d)) hl (fun y hy=>yG ts d b3 y hy)) ?_
 rintro r _ rfl
 refine aN 0 rfl ?_
 rintro a2 c2 rfl
 refine go ?_
 refine al (aq.pick [1,2] rfl) ?_
 refine al (aq.cR [_,_] _) ?_
 refine al (uH (fun y => !decide (y.x.d=d)) ts _) ?_
 refine ag hE Tryz.func112 rfl _ rfl ⟨rfl,_,rfl⟩ ad
end Go.Proofs.YtlionahpheehaaaGreatDoor
namespace Go.Proofs.YtlionahpheehaaaGreatDoor
open Go Go.SL
def dj(bs bd jb:Nat)(q:Int)(mb:Nat)(Xs:List HP)(x:SJ):HP:=Sep (cV bs bd q mb x.1++(uY jb bd dF x.2::Xs))
def xp(l:List HP):aq [Sep l] l:=by have:=aq.cR l [];rwa[List.append_nil]at this
def xF(l:List HP):aq l [Sep l]:=by have:=aq.cg l [];rwa[List.append_nil]at this
def SQ(m:Nat)(i:Nat)(y:SJ):Prop:=0≤y.2.n∧(0≤y.2.s∧y.2.s≤1000000)∧y.1.A.aF.length≤m+10*i∧y.1.A.writes.length≤m+10*i
theorem SQ.append{m i:Nat}{x y:SJ}{b:List UInt8}{e:Nat}(h:SQ m i x)(hS:Ao b x e y):SQ m (i+1) y:=by
 obtain⟨h1,h2⟩:=hS
 grind [wM,dF,SQ,eW]
attribute [local irreducible] J K aH Ends ak aK aV bX bj aS bp bD cp aJ
def xO(tb bs jb bd b2 b3:Nat)(tv:Value)(q:Int)(mb:Nat)(x:SJ)(Z:HP)(Ys:List HP)(a:Option Addr)(c:Nat)(b:List UInt8)(hb:eU Z (.slice a b.length c) b)(hl:b.length≤1000000)(hs:0≤x.2.s∧x.2.s≤1000000000)(fD:x.1.A.writes.length≤1000000000) :
  aH Tryz.prog 126 [ptr b2,ptr b3] [kW tb bs jb tv false,dj bs bd jb q mb (ak b2 (cl [ptr tb] 43)::ak b3 (cl [.slice a b.length c] 22)::Z::Ys) x]
  (fun r H=>∃(e:Nat) (x':SJ),r = .int .i64 (e:Int)∧H=[kW tb bs jb tv false,dj bs bd jb q mb (ak b2 (cl [ptr tb] 43)::ak b3 (cl [.slice a b.length c] 22)::Z::Ys) x']∧Ao b x e x'):=by
 have c0:=aH.frame ([ak bs (cl (eJ bd q mb x.1.brk) 88),aV dV mb (dJ x.1.bu)]++Ys) (JQ tb bs jb bd b2 b3 tv x.1.A x.2 Z a c b hb aj hs fD)
 refine c0.conv ?_ ?_
 ·unfold dj cV
  exact(aq.cons _ (xp _)).trans ad
 ·rintro v H⟨H',⟨rfl,rfl⟩,rfl⟩
  refine⟨[kW tb bs jb tv false,dj bs bd jb q mb _ (⟨(eW dF x.1.A x.2 b).2.1,x.1.bu,x.1.brk⟩,(eW dF x.1.A x.2 b).2.2)],⟨_,_,rfl,rfl,rfl,rfl⟩,?_⟩
  unfold dj cV
  exact aq.trans ad (aq.cons _ (xF _))
def si(tb bs jb bd:Nat)(tv:Value)(q:Int)(mb:Nat)(x:SJ)(Xs:List HP)(hn:0≤x.2.n)(hs:0≤x.2.s∧x.2.s≤1000000000)(cN:x.1.A.aF.length≤900000000)(qW:x.1.A.writes.length≤900000000) :
  aH Tryz.prog 128 [ptr jb] [kW tb bs jb tv false,dj bs bd jb q mb Xs x]
  (fun r H=>∃(e:Nat) (x':SJ),r = .int .i64 (e:Int)∧H=[kW tb bs jb tv false,dj bs bd jb q mb Xs x']∧Gf x e x'):=by
 have c0:=aH.frame ([kW tb bs jb tv false,ak bs (cl (eJ bd q mb x.1.brk) 88),aV dV mb (dJ x.1.bu)]++Xs) (K7 jb bd dF x.1.A x.2 hn hs cN qW)
 refine c0.conv ?_ ?_
 ·unfold dj cV
  exact(aq.cons _ (xp _)).trans ad
 ·rintro v H⟨H',⟨e,A',x',rfl,rfl,hC⟩,rfl⟩
  refine⟨[kW tb bs jb tv false,dj bs bd jb q mb _ (⟨A',x.1.bu,x.1.brk⟩,x')],⟨e,_,rfl,rfl,A',x',hC,rfl⟩,?_⟩
  unfold dj cV
  exact aq.trans ad (aq.cons _ (xF _))
theorem Gm(tb bs jb bd b2 b3 row:Nat)(tv:Value)(q:Int)(mb:Nat)(x:SJ)(Z:HP)(Ys:List HP)(a:Option Addr)(c:Nat)(b:List UInt8)(hb:eU Z (.slice a b.length c) b)(hl:b.length≤1000000)(m:Nat)(hm:m≤800000000)(hx:SQ m 0 x) :
  aH Tryz.prog 49 [ptr tb,.slice (some ⟨row,0,none⟩) 2 2] [ak row (cl (jC b2 b3 jb) 94),kW tb bs jb tv false,dj bs bd jb q mb (ak b2 (cl [ptr tb] 43)::ak b3 (cl [.slice a b.length c] 22)::Z::Ys) x]
  (fun r H=>∃(e:Nat) (x':SJ),r = .int .i64 (e:Int)∧H=[ak row (cl (jC b2 b3 jb) 94),kW tb bs jb tv (eQ e),dj bs bd jb q mb (ak b2 (cl [ptr tb] 43)::ak b3 (cl [.slice a b.length c] 22)::Z::Ys) x']∧jG (mw b) x e x'):=by
 refine sO (dj bs bd jb q mb (ak b2 (cl [ptr tb] 43)::ak b3 (cl [.slice a b.length c] 22)::Z::Ys)) tb bs jb tv _ _ (jC b2 b3 jb) (Vw.ak rfl) (by simp[jC]) (mw b) rfl (fun i y=>i≤1→SQ m i y) ?_ x (fun _=>hx)
 intro i fv s mA hs
 match i,mA,hs with
 | 0,mA,hs =>
  cases mA
  cases hs
  refine⟨_,_,_,rfl,fun y hy=>?_⟩
  have hq:=hy aj
  obtain⟨a1,⟨a2,a3⟩,a4,a5⟩:=hq
  refine aH.post (xO tb bs jb bd b2 b3 tv q mb y Z Ys a c b hb hl ⟨a2,aj⟩ aj) ?_
  grind [SQ.append]
 | 1,mA,hs =>
  cases mA
  cases hs
  refine⟨_,_,_,rfl,fun y hy=>?_⟩
  have hq:=hy aj
  obtain⟨a1,⟨a2,a3⟩,a4,a5⟩:=hq
  refine aH.post (si tb bs jb bd tv q mb y _ a1 ⟨a2,aj⟩ aj aj) ?_
  grind
 | n+2,mA,hs=>cases hs
end Go.Proofs.YtlionahpheehaaaGreatDoor
namespace Go.Proofs.YtlionahpheehaaaGreatDoor
open Go Go.SL
def Fx(bs bd jb:Nat)(q:Int)(mb:Nat)(Xs:List HP)(x:SJ)(F:List HP):aq (dj bs bd jb q mb [] x::(Xs++F)) (dj bs bd jb q mb Xs x::F):=by
 refine(aq.cR _ _).trans ?_
 have h:cV bs bd q mb x.1++[uY jb bd dF x.2]++(Xs++F)=(cV bs bd q mb x.1++(uY jb bd dF x.2::Xs))++F:=by simp
 rw[h]
 exact aq.cg _ _
def zP(bs bd jb:Nat)(q:Int)(mb:Nat)(Xs:List HP)(x:SJ)(F:List HP):aq (dj bs bd jb q mb Xs x::F) (dj bs bd jb q mb [] x::(Xs++F)):=by
 refine(aq.cR _ _).trans ?_
 have h:(cV bs bd q mb x.1++(uY jb bd dF x.2::Xs))++F=cV bs bd q mb x.1++[uY jb bd dF x.2]++(Xs++F):=by simp
 rw[h]
 exact aq.cg _ _
def Is(X:HP):xh X (.slice none 0 0) []:=⟨[],Vw.nil X none 0,rfl,⟨none,0,rfl,Nat.le_refl _⟩,fun i x h=>by simp at h⟩
def Og(d:Dg):List UInt8:=jB 3 d []
attribute [local irreducible] J K aH Ends ak aK aV bX bj aS bp bD cp aJ dj
theorem UL(tb bs jb bd:Nat)(tv:Value)(q:Int)(mb:Nat)(ts:List Tk)(s:SJ)(x:Bl)(hl:ts.length≤1000000)(m:Nat)(hm:m≤800000000)(hx:SQ m 0 s) :
  aH Tryz.prog 84 [ptr tb,ix x] (lN tb bs jb tv ts false++[dj bs bd jb q mb [] s])
  (fun r H=>∃(e:Nat) (s':SJ) (sJ:Value),r = .int .i64 (e:Int)∧H=lN tb bs jb sJ (if e=0 then vr ts x.d else ts) (eQ e)++[dj bs bd jb q mb [] s']∧jG (mw (Og x.d)) s e s'):=by
 have hlen:=jA 3 x.d [] (by simp) (by simp)
 have Q4:=fun tv=>Ay tb bs jb tv false ts x.d hl
 have VN:=fun a n c=>xN tb bs jb tv a n c
 have iJ:=fun b2 b3 row Z Ys a c b hb hl=>Gm tb bs jb bd b2 b3 row tv q mb s Z Ys a c b hb hl m hm hx
 refine aH.aC Tryz.func84 Tryz.ntmps84 fun G F R hE=>?_
 refine aP rfl ?_
 refine bJ zr zr bO ?_
 intro b3
 refine go ?_
 refine ct 0 zr zr zr zr zr zr ?_
 refine ao (qf 3 x.d (ak b3 (cl (ck x) 31)) (.slice none 0 0) [] (Is _) (by simp) (by simp)) ?_
 rintro r _ rfl
 refine aN 0 rfl ?_
 rintro a8 c8 rfl
 refine go ?_
 refine ao (VN a8 (jB 3 x.d []).length c8) ?_
 rintro _ _⟨c2,c3,row,rfl,rfl⟩
 refine go ?_
 refine aT (aq.pick [4,8,1,2,0,3,6,7] rfl) ?_
 refine fY (bs:=jB 3 x.d []) 0 rfl ?_
 intro N2
 refine aT (H':=dj bs bd jb q mb [] s::([ak c2 (cl [ptr tb] 43),ak c3 (cl [.slice a8 (jB 3 x.d []).length c8] 22),aK 5 1 (.slice a8 (jB 3 x.d []).length c8) (jB 3 x.d []).length (bV (jB 3 x.d []))]++(ak row (cl (jC c2 c3 jb) 94)::ak tb (cl [ptr bs,ptr jb,tv,.bool false] 101)::aK 103 1 tv ts.length (ts.map dm)::bK ts::ak b3 (cl (ck x) 31)::F))) ad ?_
 refine aT (Fx bs bd jb q mb _ s _) ?_
 refine ao (iJ c2 c3 row _ [] a8 c8 (jB 3 x.d []) N2 aj) ?_
 rintro _ _⟨e,s',rfl,rfl,hR⟩
 refine aT (H':=dj bs bd jb q mb (ak c2 (cl [ptr tb] 43)::ak c3 (cl [.slice a8 (jB 3 x.d []).length c8] 22)::aK 5 1 (.slice a8 (jB 3 x.d []).length c8) (jB 3 x.d []).length (bV (jB 3 x.d []))::[]) s'::ak tb (cl [ptr bs,ptr jb,tv,.bool (eQ e)] 101)::aK 103 1 tv ts.length (ts.map dm)::bK ts::ak b3 (cl (ck x) 31)::F) ad ?_
 refine aT (zP bs bd jb q mb _ s' _) ?_
 by_cases he:e=0
 ·subst he
  refine aT (H':=ak b3 (cl (ck x) 31)::ak tb (cl [ptr bs,ptr jb,tv,.bool false] 101)::aK 103 1 tv ts.length (ts.map dm)::bK ts::dj bs bd jb q mb [] s'::F) ad (go ?_)
  refine ct 0 zr zr zr zr zr zr ?_
  refine ao (Q4 tv) ?_
  rintro _ _⟨rfl,sJ,rfl⟩
  refine go ?_
  refine ah hE Tryz.func84 zr zr ⟨0,s',sJ,rfl,rfl,hR⟩
 ·refine aT (H':=ak tb (cl [ptr bs,ptr jb,tv,.bool (eQ e)] 101)::aK 103 1 tv ts.length (ts.map dm)::bK ts::dj bs bd jb q mb [] s'::F) ad (go ?_)
  refine aB zr zr ?_ ?_
  ·intro _
   refine go ?_
   (refine ah hE Tryz.func84 zr zr ⟨e,s',tv,rfl,by rw[if_neg he],hR⟩)
  grind
end Go.Proofs.YtlionahpheehaaaGreatDoor
namespace Go.Proofs.YtlionahpheehaaaGreatDoor
open Go Go.SL
attribute [local irreducible] J K aH Ends ak aK aV bX bj aS bp bD cp aJ
def E5(X:HP)(hK:qI X)(tb bs jb bd b2 b3:Nat)(q:Int)(mb:Nat)(tv:Value)(s:fW)(x:Bl)(cN:s.A.aF.length≤900000000)(fD:s.A.writes.length≤900000000) :
  aH Tryz.prog 82 [ptr b2,ptr b3] (kW tb bs jb tv false::(cV bs bd q mb s++[X,ak b2 (cl [ptr tb] 43),ak b3 (cl (ck x) 31)]))
  (fun r H=>∃(e:Nat) (t:fW),r = .int .i64 (e:Int)∧H=kW tb bs jb tv false::(cV bs bd q mb t++[X,ak b2 (cl [ptr tb] 43),ak b3 (cl (ck x) 31)])∧dS x s e t):=by
 have y8:=KY X hK bs bd q mb s x cN fD
 unfold ix at y8
 unfold kW
 refine aH.aC Tryz.func82 Tryz.ntmps82 fun G F R hE=>?_
 refine go ?_
 refine aO (fun w=>Sat G w ([ak tb (cl [ptr bs,ptr jb,tv,.bool false] 101),ak b2 (cl [ptr tb] 43),ak b3 (cl (ck x) 31)])) (dM 0 5 (.act 5 (.st 6 .nil))) rfl aw aw aw dI ?_
 refine go ?_
 refine dv (U:=bh) (l:=ck x) 2 zr zr zr zr zr zr (go ?_)
 refine fq rfl rfl rfl rfl y8 ad ?_ (fun _ _ w hp hw=>by obtain⟨_,_,rfl,rfl,_⟩:=hp;exact hw.cI ad)
 rintro _ _⟨e,t,rfl,rfl,hR⟩
 refine go ?_
 refine al (H':=ak tb (cl [ptr bs,ptr jb,tv,.bool false] 101)::(cV bs bd q mb t++(X::ak b2 (cl [ptr tb] 43)::ak b3 (cl (ck x) 31)::F))) ad ?_
 refine ah hE Tryz.func82 zr zr ⟨e,t,rfl,rfl,hR⟩
def E6(X:HP)(hK:qI X)(tb bs jb bd b2 b3:Nat)(q:Int)(mb:Nat)(tv:Value)(s:SJ)(x:Bl)(Ys:List HP)(cN:s.1.A.aF.length≤900000000)(fD:s.1.A.writes.length≤900000000) :
  aH Tryz.prog 82 [ptr b2,ptr b3] [kW tb bs jb tv false,dj bs bd jb q mb (ak b2 (cl [ptr tb] 43)::ak b3 (cl (ck x) 31)::X::Ys) s]
  (fun r H=>∃(e:Nat) (t:SJ),r = .int .i64 (e:Int)∧H=[kW tb bs jb tv false,dj bs bd jb q mb (ak b2 (cl [ptr tb] 43)::ak b3 (cl (ck x) 31)::X::Ys) t]∧gu (dS x) s e t):=by
 have c0:=aH.frame ([uY jb bd dF s.2]++Ys) (E5 X hK tb bs jb bd b2 b3 q mb tv s.1 x cN fD)
 refine c0.conv ?_ ?_
 ·unfold dj cV
  exact(aq.cons _ (xp _)).trans ad
 ·rintro v H⟨H',⟨e,t,rfl,rfl,hC⟩,rfl⟩
  refine⟨[kW tb bs jb tv false,dj bs bd jb q mb _ (t,s.2)],⟨e,_,rfl,rfl,hC,rfl⟩,?_⟩
  unfold dj cV
  exact aq.trans ad (aq.cons _ (xF _))
theorem PR(tb bs jb bd row:Nat)(tv:Value)(q:Int)(mb:Nat)(s:SJ)(Xs:List HP)(g:FuncId)(cap:List Value)(S:SJ→Nat→SJ→Prop)(hc:aH Tryz.prog g cap [kW tb bs jb tv false,dj bs bd jb q mb Xs s] (fun r H=>∃(e:Nat) (t:SJ),r = .int .i64 (e:Int)∧H=[kW tb bs jb tv false,dj bs bd jb q mb Xs t]∧S s e t)) :
  aH Tryz.prog 49 [ptr tb,.slice (some ⟨row,0,none⟩) 1 1] [ak row (cl [.func (.func g) #[] cap.toArray] 94),kW tb bs jb tv false,dj bs bd jb q mb Xs s]
  (fun r H=>∃(e:Nat) (t:SJ),r = .int .i64 (e:Int)∧H=[ak row (cl [.func (.func g) #[] cap.toArray] 94),kW tb bs jb tv (eQ e),dj bs bd jb q mb Xs t]∧S s e t):=by
 have h0:=sO (dj bs bd jb q mb Xs) tb bs jb tv (ak row (cl [.func (.func g) #[] cap.toArray] 94)) (.slice (some ⟨row,0,none⟩) 1 1) [.func (.func g) #[] cap.toArray] (Vw.ak rfl) (by simp) [S] rfl (fun i y=>i=0→y=s) (by
  intro i fv S' mA hs
  match i,mA,hs with
  | 0,mA,hs =>
   cases mA
   cases hs
   grind
  | n+1,mA,hs=>cases hs) s (fun _=>rfl)
 refine aH.post h0 ?_
 rintro v H⟨e,t,rfl,rfl,hR⟩
 refine⟨e,t,rfl,rfl,?_⟩
 obtain⟨e1,t1,hS,c1⟩:=hR
 rcases c1 with⟨_,rfl,rfl⟩|⟨rfl,rfl,rfl⟩
 ·exact hS
 ·exact hS
attribute [local irreducible] dj
def abc(x:Bl)(ts:List Tk)(s:SJ)(br:Bool)(r:Int)(eG:List Tk)(jN:Bool)(t:SJ):Prop :=
 (br=true∧r=10∧eG=ts∧jN=br∧t=s)∨(br=false∧lX ts x=none∧r=4∧eG=ts∧jN=br∧t=s) ∨
 (br=false∧∃y,lX ts x=some y∧((re y.ws<y.n∧r=9∧eG=ts∧jN=br∧t=s) ∨
  (¬re y.ws<y.n∧∃(e:Nat) (u:SJ),gu (dS x) s e u∧((e≠0∧e≠8∧r=e∧eG=ts∧jN=eQ e∧t=u) ∨
   ((e=0∨e=8)∧∃e':Nat,r=(if e'=0 then(e:Int)else e')∧eG=(if e'=0 then vr ts x.d else ts)∧jN=eQ e'∧jG (mw (Og x.d)) u e' t)))))
theorem IF(X:HP)(hK:qI X)(tb bs jb bd:Nat)(tv:Value)(q:Int)(mb:Nat)(ts:List Tk)(br:Bool)(s:SJ)(x:Bl)(hl:ts.length≤1000000)(hn:∀y∈ts,y.n≤65536)(hw:∀y∈ts,y.ws.length≤65536)(cN:s.1.A.aF.length≤900000000)(fD:s.1.A.writes.length≤900000000)(m:Nat)(hm:m≤800000000)(hx:∀e t,gu (dS x) s e t→SQ m 0 t) :
  aH Tryz.prog 21 [ptr tb,ix x] (lN tb bs jb tv ts br++[dj bs bd jb q mb [] s,X])
  (fun r H=>∃(ri:Int) (eG:List Tk) (sJ:Value) (jN:Bool) (t:SJ),r = .int .i64 ri∧H=lN tb bs jb sJ eG jN++[dj bs bd jb q mb [] t,X]∧abc x ts s br ri eG jN t):=by
 have hf:=DP tb bs jb tv br ts x hl
 have eA:=fun e t h=>UL tb bs jb bd tv q mb ts t x hl m hm (hx e t h)
 refine aH.aC Tryz.func21 Tryz.ntmps21 fun G F R hE=>?_
 refine aP rfl ?_
 refine bJ zr zr bO ?_
 intro b2
 refine bJ zr zr bO ?_
 intro b3
 refine go ?_
 refine aW (U:=bh) (l:=ck x) 0 zr zr zr zr zr zr ?_
 refine aeb hf ?_
 cases br with
 | true =>
  refine go ?_
  refine ah hE Tryz.func21 zr zr ⟨10,ts,tv,true,s,rfl,rfl,.inl ⟨rfl,rfl,rfl,rfl,rfl⟩⟩
 | false =>
  cases xe:lX ts x with
  | none =>
   refine go ?_
   refine ah hE Tryz.func21 zr zr ⟨4,ts,tv,false,s,rfl,rfl,.inr (.inl ⟨rfl,xe,rfl,rfl,rfl,rfl⟩)⟩
  | some y =>
   obtain⟨i,hi,QU⟩:=yd xe
   have QV:y∈ts:=List.mem_of_getElem? hi
   have T1:=hw y QV
   refine go ?_
   refine al (aq.pick [2,0,1,5,6,4] rfl) ?_
   refine al (pX hi _) ?_
   refine dZ (iF y) ?_
   rintro⟨wv,cs,M⟩ hz
   have Rz:=Lc y.sb y.n wv y.ws T1
   refine aO (fun w=>Sat G w ([ak y.yb (cl (qT y) 107)])) (dM 0 4 (dM 5 4 (.act 4 (.act 9 (.st 10 (.st 11 .nil)))))) rfl aw aw aw dI ?_
   refine go ?_
   refine Vd Rz ?_
   refine go ?_
   refine Vd (jK y.sb y.n wv) ?_
   refine go ?_
   refine al (aq.pick [2] rfl) ?_
   refine al (ld hz _) ?_
   refine al (sM hi _) ?_
   refine al (H':=ak b3 (cl (ck x) 31)::ak b2 (cl [ptr tb] 43)::ak tb (cl [ptr bs,ptr jb,tv,.bool false] 101)::aK 103 1 tv ts.length (ts.map dm)::bK ts::dj bs bd jb q mb [] s::X::F) ad ?_
   refine eX zr zr ?_ ?_
   ·intro dk
    refine go ?_
    refine ah hE Tryz.func21 zr zr ⟨9,ts,tv,false,s,rfl,rfl,.inr (.inr ⟨rfl,y,xe,.inl ⟨by simpa using dk,rfl,rfl,rfl,rfl⟩⟩)⟩
   intro fO
   have NU:¬re y.ws<y.n:=by simpa using fO
   refine go ?_
   refine az (cs:=[.func (.func 82) #[] #[ptr b2,ptr b3] ]) zr zr zr zr zr zr zr zr zr bO ?_
   intro row
   refine aT (aq.pick [6,2,1,7] rfl) ?_
   refine aT (Fx bs bd jb q mb _ s _) ?_
   have iJ:=PR tb bs jb bd row tv q mb s _ _ [ptr b2,ptr b3] _ (E6 X hK tb bs jb bd b2 b3 q mb tv s x [] cN fD)
   refine ao iJ ?_
   rintro _ _⟨e,t,rfl,rfl,hS⟩
   refine aT (H':=dj bs bd jb q mb (ak b2 (cl [ptr tb] 43)::ak b3 (cl (ck x) 31)::X::[]) t::ak tb (cl [ptr bs,ptr jb,tv,.bool (eQ e)] 101)::aK 103 1 tv ts.length (ts.map dm)::bK ts::F) ad ?_
   refine aT (zP bs bd jb q mb _ t _) ?_
   refine aT (H':=ak b3 (cl (ck x) 31)::ak b2 (cl [ptr tb] 43)::ak tb (cl [ptr bs,ptr jb,tv,.bool (eQ e)] 101)::aK 103 1 tv ts.length (ts.map dm)::bK ts::dj bs bd jb q mb [] t::X::F) ad ?_
   by_cases Q1:e=0∨e=8
   ·have hb:eQ e=false:=decide_eq_false aj
    rcases Q1 with rfl|rfl
    all_goals(
     refine go ?_
     refine aW (U:=bh) (l:=ck x) 0 zr zr zr zr zr zr ?_
     refine ao (eA _ t hS) ?_
     rintro _ _⟨e',t',sJ,rfl,rfl,hR⟩
     by_cases NW:e'=0
     ·subst NW
      refine go ?_
      refine al (H':=ak tb (cl [ptr bs,ptr jb,sJ,.bool (eQ 0)] 101)::aK 103 1 sJ (vr ts x.d).length ((vr ts x.d).map dm)::bK (vr ts x.d)::dj bs bd jb q mb [] t'::X::F) ad ?_
      refine ah hE Tryz.func21 zr zr ⟨_,vr ts x.d,sJ,eQ 0,t',rfl,rfl,.inr (.inr ⟨rfl,y,xe,.inr ⟨NU,_,t,hS,.inr ⟨aj,0,rfl,rfl,rfl,hR⟩⟩⟩)⟩
     ·refine go ?_
      refine aB zr zr ?_ ?_
      ·intro _
       refine go ?_
       refine al (H':=ak tb (cl [ptr bs,ptr jb,sJ,.bool (eQ e')] 101)::aK 103 1 sJ (if e'=0 then vr ts x.d else ts).length ((if e'=0 then vr ts x.d else ts).map dm)::bK (if e'=0 then vr ts x.d else ts)::dj bs bd jb q mb [] t'::X::F) ad ?_
       refine ah hE Tryz.func21 zr zr ⟨e',_,sJ,eQ e',t',rfl,rfl,.inr (.inr ⟨rfl,y,xe,.inr ⟨NU,_,t,hS,.inr ⟨aj,e',(if_neg NW).symm,rfl,rfl,hR⟩⟩⟩)⟩
      ·intro h;exfalso;omega)
   ·refine go ?_
    ((refine au 37 ((.bool true)) rfl ((congrArg Value.bool (by simp;omega))) ?_))
    refine go ?_
    refine eX zr zr ?_ ?_
    ·intro _
     refine go ?_
     refine ah hE Tryz.func21 zr zr ⟨e,ts,tv,eQ e,t,rfl,rfl,.inr (.inr ⟨rfl,y,xe,.inr ⟨NU,e,t,hS,.inl ⟨aj,aj,rfl,rfl,rfl,rfl⟩⟩⟩)⟩
    grind
end Go.Proofs.YtlionahpheehaaaGreatDoor
namespace Go.Proofs.YtlionahpheehaaaGreatDoor
open Go Go.SL
attribute [local irreducible] J K aH Ends ak aK aV bX bj aS bp bD cp aJ
def eL(s:fW)(x:Bl)(i:Int):List UInt8 × Nat:=if rM s.bu x then(match dX x i with
 | none=>([],1)
 | some (a,n)=>s.A.read (cX kS x.d) a n)else([],4)
def KL(bs bd:Nat)(q:Int)(mb:Nat)(s:fW)(x:Bl)(i:Int):aH Tryz.prog 121 [ptr bs,ix x,.int .i64 i] (cV bs bd q mb s)
  (fun r H=>∃rv,r = .tuple #[rv,.int .i64 ((eL s x i).2:Int)]∧H=aK 5 1 rv (eL s x i).1.length (bV (eL s x i).1)::cV bs bd q mb s):=by
 obtain⟨A,bu,brk⟩:=s
 have ho:=GP bs bd q mb brk bu x
 have hX:=wQ x i
 have hf:=ny kS x.d (by decide)
 unfold ix dV at *
 unfold cV
 dsimp only
 refine aH.aC Tryz.func121 Tryz.ntmps121 fun G F R hE=>?_
 refine aP rfl ?_
 refine bJ zr zr bO ?_
 intro b4
 refine go ?_
 refine aW (U:=bh) (l:=ck x) 0 zr zr zr zr zr zr ?_
 refine aeb ho ?_
 cases hh:rM bu x with
 | false =>
  have h1:eL ⟨A,bu,brk⟩ x i=([],4):=by unfold eL;rw[if_neg (by simp[hh])]
  rw[h1]at hE
  refine go ?_
  refine al (bS 5 1 none _) ?_
  refine al (H':=aK 5 1 (.slice none 0 0) 0 []::ak bs (cl (eJ bd q mb brk) 88)::aV dV mb (dJ bu)::aJ bd A::F) ad ?_
  refine ah hE Tryz.func121 zr zr ⟨_,rfl,rfl⟩
 | true =>
  refine go ?_
  refine aW (U:=bh) (l:=ck x) 2 zr zr zr zr zr zr ?_
  ((refine go ?_;(refine ao hX ?_)))
  rintro _ _⟨rfl,rfl⟩
  cases hs:dX x i with
  | none =>
   have h1:eL ⟨A,bu,brk⟩ x i=([],1):=by unfold eL;rw[if_pos (by simp[hh]),hs]
   rw[h1]at hE
   refine go ?_
   refine al (bS 5 1 none _) ?_
   refine al (H':=aK 5 1 (.slice none 0 0) 0 []::ak bs (cl (eJ bd q mb brk) 88)::aV dV mb (dJ bu)::aJ bd A::F) ad ?_
   refine ah hE Tryz.func121 zr zr ⟨_,rfl,rfl⟩
  | some an =>
   obtain⟨a,n⟩:=an
   have h1:eL ⟨A,bu,brk⟩ x i=A.read (cX kS x.d) a n:=by unfold eL;rw[if_pos (by simp[hh]),hs]
   rw[h1]at hE
   have rV:=wS bd A (cX kS x.d) a n
   refine go ?_
   refine al (H':=ak b4 (cl (ck x) 31)::ak bs (cl (eJ bd q mb brk) 88)::aV dV mb (dJ bu)::aJ bd A::F) ad ?_
   refine aO (fun w=>Sat G w ([ak b4 (cl (ck x) 31),ak bs (cl (eJ bd q mb brk) 88)])) (dM 0 6 (.st 7 (.st 8 (.act 6 (.act 9 (dM 10 4 .nil)))))) rfl aw aw aw dI ?_
   refine go ?_
   refine cE (U:=bh) 0 zr zr zr zr zr zr (go ?_)
   refine Vd hf ?_
   refine go ?_
   ((refine fq zr zr zr zr (rV) ad ?_ (fun _ _ w hp hw=>by obtain⟨r,rfl,rfl⟩:=hp;exact hw.cI ad)))
   rintro _ _⟨r,rfl,rfl⟩
   refine go ?_
   refine al (H':=aK 5 1 r (A.read (cX kS x.d) a n).1.length (bV (A.read (cX kS x.d) a n).1)::ak bs (cl (eJ bd q mb brk) 88)::aV dV mb (dJ bu)::aJ bd A::F) ad ?_
   refine ah hE Tryz.func121 zr zr ⟨_,rfl,rfl⟩
def M5(tb bs jb bd b2 b3:Nat)(q:Int)(mb:Nat)(tv:Value)(s:fW)(x:Bl)(cN:s.A.aF.length≤900000000)(fD:s.A.writes.length≤900000000) :
  aH Tryz.prog 76 [ptr b2,ptr b3] (kW tb bs jb tv false::(cV bs bd q mb s++[ak b2 (cl [ptr tb] 43),ak b3 (cl (ck x) 31)]))
  (fun r H=>∃(e:Nat) (t:fW),r = .int .i64 (e:Int)∧H=kW tb bs jb tv false::(cV bs bd q mb t++[ak b2 (cl [ptr tb] 43),ak b3 (cl (ck x) 31)])∧kQ x s e t):=by
 have y8:=U3 bs bd q mb s x cN fD
 unfold ix at y8
 unfold kW
 refine aH.aC Tryz.func76 Tryz.ntmps76 fun G F R hE=>?_
 refine go ?_
 refine aO (fun w=>Sat G w ([ak tb (cl [ptr bs,ptr jb,tv,.bool false] 101),ak b2 (cl [ptr tb] 43),ak b3 (cl (ck x) 31)])) (dM 0 5 (.act 5 (.st 6 .nil))) rfl aw aw aw dI ?_
 refine go ?_
 refine dv (U:=bh) (l:=ck x) 2 zr zr zr zr zr zr (go ?_)
 refine fq rfl rfl rfl rfl y8 ad ?_ (fun _ _ w hp hw=>by obtain⟨_,_,rfl,rfl,_⟩:=hp;exact hw.cI ad)
 rintro _ _⟨e,t,rfl,rfl,hR⟩
 refine go ?_
 refine al (H':=ak tb (cl [ptr bs,ptr jb,tv,.bool false] 101)::(cV bs bd q mb t++(ak b2 (cl [ptr tb] 43)::ak b3 (cl (ck x) 31)::F))) ad ?_
 refine ah hE Tryz.func76 zr zr ⟨e,t,rfl,rfl,hR⟩
def M7(X:HP)(tb bs jb bd b2 b3 b4 b5:Nat)(q:Int)(mb:Nat)(tv:Value)(s:fW)(x:Bl)(i:Int)(a:Option Addr)(c:Nat)(b:List UInt8)(hv:Vw X (.slice a b.length c) b.length (bV b))(jx:b.length≤1000000000)(hi : -9223372036854775808≤i∧i≤9223372036854775807)(cN:s.A.aF.length≤900000000)(fD:s.A.writes.length≤900000000) :
  aH Tryz.prog 74 [ptr b2,ptr b3,ptr b4,ptr b5] (kW tb bs jb tv false::(cV bs bd q mb s++[X,ak b2 (cl [ptr tb] 43),ak b3 (cl (ck x) 31),ak b4 (cl [.int .i64 i] 3),ak b5 (cl [.slice a b.length c] 22)]))
  (fun r H=>∃(e:Nat) (t:fW),r = .int .i64 (e:Int)∧H=kW tb bs jb tv false::(cV bs bd q mb t++[X,ak b2 (cl [ptr tb] 43),ak b3 (cl (ck x) 31),ak b4 (cl [.int .i64 i] 3),ak b5 (cl [.slice a b.length c] 22)])∧nE x i b s e t):=by
 have y8:=aa5 X bs bd q mb s x i _ b hv jx hi cN fD
 unfold ix at y8
 unfold kW
 refine aH.aC Tryz.func74 Tryz.ntmps74 fun G F R hE=>?_
 refine go ?_
 refine aO (fun w=>Sat G w ([ak tb (cl [ptr bs,ptr jb,tv,.bool false] 101),ak b2 (cl [ptr tb] 43),ak b3 (cl (ck x) 31),ak b4 (cl [.int .i64 i] 3),ak b5 (cl [.slice a b.length c] 22)])) (dM 0 7 (.act 7 (.st 8 .nil))) rfl aw aw aw dI ?_
 refine go ?_
 refine dv (U:=bh) (l:=ck x) 2 zr zr zr zr zr zr ?_
 (repeat((refine aY ?_;first|refine mU 3 zr zr zr zr zr zr ?_|refine mU 4 zr zr zr zr zr zr ?_)))
 refine fq rfl rfl rfl rfl y8 ad ?_ (fun _ _ w hp hw=>by obtain⟨_,_,rfl,rfl,_⟩:=hp;exact hw.cI ad)
 rintro _ _⟨e,t,rfl,rfl,hR⟩
 refine go ?_
 refine al (H':=ak tb (cl [ptr bs,ptr jb,tv,.bool false] 101)::(cV bs bd q mb t++(X::ak b2 (cl [ptr tb] 43)::ak b3 (cl (ck x) 31)::ak b4 (cl [.int .i64 i] 3)::ak b5 (cl [.slice a b.length c] 22)::F))) ad ?_
 refine ah hE Tryz.func74 zr zr ⟨e,t,rfl,rfl,hR⟩
attribute [local irreducible] LI yP
theorem IL(jb bd:Nat)(name:ByteArray)(Hk:name.size≤1000000000)(A:Ab)(x:JN)(V:HP)(lv:Value)(ls:List (List UInt8))(hv:xh V lv ls)(hl:(ls.flatMap bB).length≤100000000)(hn:ls.length≤1000000000)(cN:A.aF.length≤900000000)(qW:A.writes.length≤900000000) :
    aH Tryz.prog 43 [ptr jb,lv] [aJ bd A,uY jb bd name x,V]
      (fun r H=>∃(e:Nat) (A':Ab) (x':JN),r = .int .i64 (e:Int)∧H=[aJ bd A',uY jb bd name x',V]∧pO name A x ls e A' x'):=by
  obtain⟨n,s,c,bk⟩:=x
  have kX:=hv
  obtain⟨cs,dH,kJ,⟨a,cc,rfl,hcc⟩,tq⟩:=hv
  dsimp only [uY,jr]
  refine aH.aC Tryz.func43 Tryz.ntmps43 fun G F R hE=>?_
  unfold pO at hE
  cases bk with
  | true =>
    simp only[if_true]at hE
    refine go ?_
    refine ah hE Tryz.func43 zr zr ⟨10,_,⟨n,s,c,true⟩,rfl,rfl,rfl,rfl,rfl⟩
  | false =>
    simp only[Bool.false_eq_true,if_false]at hE
    refine go ?_
    refine bF (fun i:Nat=>i≤ls.length∧∀(j:Nat) (y:List UInt8),j<i→ls[j]?=some y→y.length≤4096) (fun i=>ls.length-i)
      (fun i=>[(0,ptr jb),(0+1,.slice a ls.length cc),(5,.int .i64 (((ls.take i).flatMap bB).length:Int)),(12,.slice a ls.length cc),(13,.int .i64 ls.length),(14,.int .i64 (i:Int))])
      (fun _=>aJ bd A::ak jb (cl [ptr bd,.string name,.int .i64 n,.int .i64 s,.int .i64 c,.bool false] 188)::V::F) 0 ⟨Nat.zero_le _,fun j y hj=>by omega⟩ rfl cF ad ?_
    rintro i⟨hi,Du⟩ ih
    refine go ?_
    refine aB zr zr ?_ ?_
    case' refine_1 =>
      intro dk
      have VU:i<ls.length:=by omega
      obtain⟨y,hy⟩:∃y,ls[i]?=some y:=⟨ls[i],by simp⟩
      obtain⟨cv,qP,I6⟩:=tq i y hy
      obtain⟨b1,o1,k1,zI⟩:=dH.some (by intro e;rw[e]at qP;simp at qP)
      simp only[Value.slice.injEq,true_and]at zI
      obtain⟨rfl,rfl⟩:=zI
      obtain⟨ay,ky,rfl,hky⟩:=I6.2
      have L2:=DO hy
      have pQ:((ls.take (i+1)).flatMap bB).length=((ls.take i).flatMap bB).length+(bB y).length:=by rw[L2,List.length_append]
      have hle:=L8 ls (i+1)
      refine go ?_
      refine bW i zr zr zr zr zr zr zr zr VU ?_
      refine aZ 2 i zr zr zr dH rfl qP zr zr (go ?_)
      refine aB zr zr ?_ ?_
      · intro xZ
        have mJ:(ls.any fun b=>decide (4096<b.length))=true:=List.any_eq_true.2 ⟨y,List.mem_of_getElem? hy,decide_eq_true aj⟩
        simp only[if_pos mJ]at hE
        refine go ?_
        refine ah hE Tryz.func43 zr zr ⟨1,_,⟨n,s,c,false⟩,rfl,rfl,rfl,rfl,rfl⟩
      intro k8
      have agy:=sg y aj
      refine go ?_
      refine ao (ki V _ y I6 aj) ?_
      rintro r _ rfl
      refine aN 0 rfl ?_
      rintro ra rc rfl
      refine go ?_
      ((refine aE 5 ((.int .i64 (((ls.take (i+1)).flatMap bB).length:Int))) rfl ((congrArg (Value.int .i64) (by rw[pQ];simp))) ?_))
      refine go ?_
      refine aQ ih (i+1) rfl (⟨aj,fun j z hj hz=>by
        rcases Nat.lt_or_ge j i with h|h
        · exact Du j z h hz
        · have:j=i:=by omega
          subst this
          rw[hy]at hz;cases hz;omega⟩) aj cF ad
    intro fO
    have ue:i=ls.length:=by omega
    subst ue
    rw[List.take_length]
    have mJ:¬(ls.any fun b=>decide (4096<b.length))=true:=fun h=>by
      obtain⟨y,hy,hb⟩:=List.any_eq_true.1 h
      obtain⟨j,hj,rfl⟩:=List.getElem_of_mem hy
      have:=Du j _ aj (List.getElem?_eq_getElem hj)
      grind
    simp only[if_neg mJ]at hE
    refine go ?_
    refine aB zr zr ?_ ?_
    · intro xZ
      have qZ:524288<(ls.flatMap bB).length:=by omega
      simp only[if_pos qZ]at hE
      refine go ?_
      refine ah hE Tryz.func43 zr zr ⟨3,_,⟨n,s,c,false⟩,rfl,rfl,rfl,rfl,rfl⟩
    intro k8
    have qZ:¬524288<(ls.flatMap bB).length:=by omega
    simp only[if_neg qZ]at hE
    refine go ?_
    refine ao (EC jb bd name n s c false A V _ ls kX aj hn Hk cN qW) ?_
    rintro _ _⟨e,⟨A',n',s',c'⟩,rfl,rfl,mg⟩
    refine go ?_
    refine aeb (qA jb bd name n' s' c' false e) ?_
    refine go ?_
    refine ah hE Tryz.func43 zr zr ⟨e,A',⟨n',s',c',decide (e≠0)⟩,rfl,rfl,_,mg,rfl,rfl⟩
end Go.Proofs.YtlionahpheehaaaGreatDoor
namespace Go.Proofs.YtlionahpheehaaaGreatDoor
open Go Go.SL
def jj(b:List UInt8):Option (UInt8 × Dg × List (List UInt8)):=match nJ b with
 | some (x1::x2::l)=>if((x1::x2::l).getLast?.map (·.1))=some ((2+l.length:Nat):Int)∧x1.2.length=1∧x2.2.length=32 then some (x1.2.headD 0,wI x2.2,l.map (·.2))else none
 | _=>none
def rN(b:List UInt8):Option Nat:=(cH b).bind fun n=>if n≤1048576 then some n else none
def ij(b:List UInt8):Option Dg:=if b.length=32 then some (wI b)else none
def AS(n:Nat):Int:=IntKind.u64.wrap ((BitVec.ofInt IntKind.u64.bits (n:Int) &&& BitVec.ofInt IntKind.u64.bits 4294967295).toNat:Int)
theorem Di(n:Nat):∃k:Nat,AS n=k∧k<4294967296∧(n≤1048576→k=n):=by
 have e1:(BitVec.ofInt IntKind.u64.bits (4294967295:Int)).toNat=4294967295:=by decide
 obtain⟨k,hk⟩:∃k,k=(BitVec.ofInt IntKind.u64.bits (n:Int) &&& BitVec.ofInt IntKind.u64.bits 4294967295).toNat:=⟨_,rfl⟩
 have hle:k≤4294967295:=by
  rw[hk,BitVec.toNat_and,e1]
  exact Nat.and_le_right
 refine⟨k,?_,aj,fun hn=>?_⟩
 ·grind [AS,dr,js]
 ·rw[hk,BitVec.toNat_and,e1]
  have e2:(BitVec.ofInt IntKind.u64.bits (n:Int)).toNat=n:=by
   grind
  rw[e2,show(4294967295:Nat)=2 ^ 32-1 from rfl,Nat.and_two_pow_sub_one_eq_mod]
  grind
attribute [local irreducible] J K aH Ends ak aK aV bX bj aS bp bD cp Sha.chunks Sha.chunk Sha.rounds Sha.sched fz cY fG AS
def rJ(X:HP)(v:Value)(b:List UInt8)(hb:eU X v b)(hl:b.length≤1000000) :
  aH Tryz.prog 113 [v] [X] (fun r H=>H=[X]∧∃k:Nat,k<4294967296∧r = .tuple #[.int .i64 (k:Int),.bool (rN b).isSome]∧∀m,rN b=some m→k=m):=by
 have htu:=gn X v b hb aj
 refine aH.aC Tryz.func113 Tryz.ntmps113 fun G F R hE=>?_
 refine go ?_
 refine aeb htu ?_
 unfold rN at hE
 cases hu:cH b with
 | none =>
  rw[hu]at hE
  obtain⟨k,DA,Ch,_⟩:=Di 0
  refine go ?_
  ((refine au 12 ((.int .u64 (k:Int))) rfl ((congrArg (Value.int .u64) (by rw[← DA];unfold AS;rfl))) ?_))
  refine go ?_
  (refine ah hE Tryz.func113 zr zr ⟨rfl,k,Ch,rfl,fun m h=>by cases h⟩)
 | some n =>
  rw[hu]at hE
  simp only[Option.bind_some]at hE ⊢
  obtain⟨k,DA,Ch,hk3⟩:=Di n
  refine go ?_
  ((refine au 12 ((.int .u64 (k:Int))) rfl ((congrArg (Value.int .u64) (by rw[← DA];unfold AS;rfl))) ?_))
  refine go ?_
  by_cases hn:n≤1048576
  ·rw[if_pos hn]at hE
   refine aE 3 ((.bool true)) rfl ((congrArg Value.bool (decide_eq_true aj))) (go ?_)
   ((refine ah hE Tryz.func113 zr zr ⟨rfl,k,Ch,rfl,fun m h=>by injection h with h;rw[← h];exact hk3 hn⟩))
  ·rw[if_neg hn]at hE
   refine aE 3 ((.bool false)) rfl ((congrArg Value.bool (decide_eq_false aj))) (go ?_)
   (refine ah hE Tryz.func113 zr zr ⟨rfl,k,Ch,rfl,fun m h=>by cases h⟩)
def sV(X:HP)(v:Value)(b:List UInt8)(hb:eU X v b)(hl:b.length≤1000000) :
  aH Tryz.prog 114 [v] [X] (fun r H=>H=[X]∧r = .tuple #[dV ((ij b).getD Dg.zero),.bool (ij b).isSome]):=by
 obtain⟨dH,a,c,rfl,hc⟩:=hb
 refine aH.aC Tryz.func114 Tryz.ntmps114 fun G F R hE=>?_
 refine aP rfl ?_
 refine aL zr zr zr bO ?_
 intro b2
 unfold ij at hE
 refine go ?_
 refine aB zr zr ?_ ?_
 ·intro dw
  rw[if_neg aj]at hE
  refine go ?_
  refine jJ (U:=bh) zr zr zr zr zr (go ?_)
  (refine bL hE ?_;apply bH (U:=bh) hE Tryz.func114 rfl (aq.refl _);(repeat(first|exact ae.nil|apply ae.tmp rfl|apply ae.agg 0 zr zr zr zr zr));exact⟨rfl,rfl⟩;exact ad)
 ·intro heq
  have Kl:b.length=32:=by omega
  rw[if_pos Kl]at hE
  rw[Bw Kl]at dH
  obtain⟨bb,oo,cc,he⟩:=dH.some (by intro h;have:=congrArg List.length h;rw[ff]at this;cases this)
  obtain⟨rfl,rfl⟩:=he
  refine go ?_
  refine tJ (U:=bh) zr zr zr zr aj (go ?_)
  refine aY ?_
  refine cK (U:=bh) (es:=dC (wI b)) 1 0 zr zr zr dH rfl (fun j v hj=>by rw[Nat.zero_add];exact hj) zr zr zr ?_
  refine go ?_
  (refine bL hE ?_;apply bH (U:=bh) hE Tryz.func114 rfl (aq.refl _);(repeat(first|exact ae.nil|apply ae.tmp rfl|apply ae.agg 0 zr zr zr zr zr));exact⟨rfl,rfl⟩;exact ad)
def JE{b:List UInt8}(h:nJ b=none):jj b=none:=by unfold jj;rw[h]
theorem Gz{b:List UInt8}{xs:List (Int × List UInt8)}(h:nJ b=some xs)(hl:xs.length<2):jj b=none:=by
 grind [jj]
theorem M0{b:List UInt8}{n1 n2:Int}{b1 b2:List UInt8}{l:List (Int × List UInt8)}{n:Int}(h:nJ b=some ((n1,b1)::(n2,b2)::l))(hn:(((n1,b1)::(n2,b2)::l).getLast?.map (·.1))=some n) :
  jj b=if n=((2+l.length:Nat):Int)∧b1.length=1∧b2.length=32 then some (b1.headD 0,wI b2,l.map (·.2))else none:=by
 grind [jj]
def xh.ofP{X:HP}{a:Option Addr}{c:Nat}{ls:List (List UInt8)}{cs:List Value}(hv:Vw (aK 22 1 (.slice a ls.length c) ls.length cs) (.slice a ls.length c) ls.length cs)(hc:ls.length≤c)(hl:cs.length=ls.length)(pR:∀(j:Nat) (z:List UInt8),ls[j]?=some z→∃cv,cs[j]?=some cv∧eU X cv z):xh (Sep [aK 22 1 (.slice a ls.length c) ls.length cs,X]) (.slice a ls.length c) ls :=
  ⟨cs,hv.mono (aX (i:=0) rfl),hl,⟨a,c,rfl,hc⟩,fun i x hx=>by
    obtain⟨cv,h1,h2⟩:=pR i x hx
    exact⟨cv,h1,h2.mono (aX (i:=1) rfl)⟩⟩
def HI(l:List It):l.map It.v=l.flatMap fun x=>[x.v]:=by induction l with|nil=>rfl|cons x l ih=>simp[ih]
theorem M8(X:HP)(v:Value)(b:List UInt8)(hb:eU X v b)(hl:b.length≤1000000) :
  aH Tryz.prog 111 [v] [X] (fun r H=>(jj b=none∧(∃(k:UInt8) (d:Dg) (a:Option Addr) (n c:Nat),r = .tuple #[u8 k,dV d,.slice a n c,.bool false])∧H=[X]) ∨
   ∃k d more mv Z,jj b=some (k,d,more)∧xh Z mv more∧(∀x∈more,x.length≤65536)∧more.length≤65536∧r = .tuple #[u8 k,dV d,mv,.bool true]∧H=[Z,X]):=by
 have O2:=jy X v b hb aj
 obtain⟨a,c,rfl,hc⟩:=hb.2
 refine aH.aC Tryz.func111 Tryz.ntmps111 fun G F R hE=>?_
 refine aP rfl (go ?_)
 refine aL zr zr zr bO ?_
 intro b3
 refine go ?_
 refine ao O2 ?_
 rintro _ _ (⟨hn,rfl,rfl⟩|⟨xs,eu,Z0,rv,hs,mO,⟨dH,vv⟩,rfl,rfl,ra,rc,rfl,LR⟩)
 ·have hd:=JE hn
  refine go ?_
  refine jJ (U:=bh) zr zr zr zr zr (go ?_)
  (refine bL hE ?_;apply bH (U:=bh) hE Tryz.func111 rfl (aq.refl _);(repeat(first|exact ae.nil|apply ae.tmp rfl|apply ae.agg 1 zr zr zr zr zr));exact(.inl ⟨hd,⟨0,Dg.zero,none,0,0,rfl⟩,rfl⟩);exact ad)
 have Dr:=vE hs
 have IX:eu.length≤65536:=by
  have h1:xs.length≤65536:=by
   unfold nJ at hs
   split at hs
   ·cases hs
   ·split at hs
    ·cases hs
     have:=vD _ b (Nat.le_refl _)
     grind [eP]
    ·cases hs
  grind
 by_cases h2:eu.length<2
 ·have hd:=Gz hs (by rw[← mO,List.length_map];exact h2)
  refine go ?_
  refine au 25 ((.bool true)) rfl ((congrArg Value.bool (decide_eq_true aj))) (go ?_)
  refine jJ (U:=bh) zr zr zr zr zr (go ?_)
  (refine bL hE ?_;apply bH (U:=bh) hE Tryz.func111 rfl (aq.refl _);(repeat(first|exact ae.nil|apply ae.tmp rfl|apply ae.agg 2 zr zr zr zr zr));exact(.inl ⟨hd,⟨0,Dg.zero,none,0,0,rfl⟩,rfl⟩);exact ad)
 obtain⟨i1,i2,rest,Cw⟩:∃i1 i2 rest,eu=i1::i2::rest:=by
  match eu,h2 with
  | i1::i2::rest,_=>exact⟨i1,i2,rest,rfl⟩
  | [],h=>exact absurd (by simp) h
  | [_],h=>exact absurd (by simp) h
 have hlen:eu.length=rest.length+2:=by rw[Cw];rfl
 obtain⟨lst,aaq⟩:∃x,eu[rest.length+1]?=some x:=⟨eu[rest.length+1]' aj,by simp⟩
 have lV:((eu.map It.p).getLast?.map (·.1))=some lst.n:=by
  rw[List.getLast?_eq_getElem?,List.length_map,List.getElem?_map,show eu.length-1=rest.length+1 from by omega,aaq]
  rfl
 obtain⟨rb,ro,rcc,he⟩:=dH.some (by rw[Cw];intro h;simp[kq]at h)
 simp only[Value.slice.injEq,true_and]at he
 obtain⟨rfl,rfl⟩:=he
 have I4:eu[0]?=some i1:=by rw[Cw];rfl
 have O7:eu[1]?=some i2:=by rw[Cw];rfl
 have nN:=vv i1 (List.mem_of_getElem? I4)
 have qZ:=vv i2 (List.mem_of_getElem? O7)
 have Ds:(eu.flatMap kq)[0*2+1]?=some i1.v:=cM iy I4 1 aj
 have QW:(eu.flatMap kq)[1*2+1]?=some i2.v:=cM iy O7 1 aj
 have fD:(eu.flatMap kq)[(rest.length+1)*2+0]?=some (.int .i64 lst.n):=cM iy aaq 0 aj
 have hm2:=Dr i2.p (by rw[← mO];exact List.mem_map.2 ⟨_,List.mem_of_getElem? O7,rfl⟩)
 obtain⟨n1,v1,b1⟩:=i1
 obtain⟨n2,v2,b2⟩:=i2
 simp only at nN qZ Ds QW
 obtain⟨a1,c1,rfl,y7⟩:=nN.2
 obtain⟨a2,c2,rfl,qu⟩:=qZ.2
 simp only[It.p]at hm2
 have hre:=M0 (n1:=n1) (b1:=b1) (n2:=n2) (b2:=b2) (l:=rest.map It.p) (n:=lst.n) (by rw[hs,← mO,Cw];rfl) (by rw[Cw]at lV;exact lV)
 rw[List.length_map]at hre
 refine go ?_
 refine au 25 ((.bool false)) rfl ((congrArg Value.bool (decide_eq_false aj))) (go ?_)
 refine cu (rest.length+1) 2 zr zr zr zr zr zr zr aj aj (go ?_)
 refine aY ?_
 refine aZ 0 ((rest.length+1)*2+0) zr zr zr dH (Nat.add_assoc _ _ _) fD zr zr (go ?_)
 by_cases FR:lst.n=((2+rest.length:Nat):Int)
 case neg =>
  have hd:jj b=none:=by rw[hre,if_neg (fun h=>FR h.1)]
  refine au 37 ((.bool true)) rfl ((congrArg Value.bool (decide_eq_true aj))) (go ?_)
  refine jJ (U:=bh) zr zr zr zr zr (go ?_)
  (refine bL hE ?_;apply bH (U:=bh) hE Tryz.func111 rfl (aq.refl _);(repeat(first|exact ae.nil|apply ae.tmp rfl|apply ae.agg 2 zr zr zr zr zr));exact(.inl ⟨hd,⟨0,Dg.zero,none,0,0,rfl⟩,rfl⟩);exact ad)
 refine au 37 ((.bool false)) rfl ((congrArg Value.bool (decide_eq_false aj))) (go ?_)
 refine cu 0 2 zr zr zr zr zr zr zr zr aj (go ?_)
 refine aY ?_
 refine aZ 0 (0*2+1) zr zr zr dH (Nat.add_assoc _ _ _) Ds zr zr (go ?_)
 by_cases h1l:b1.length=1
 case neg =>
  have hd:jj b=none:=by rw[hre,if_neg (fun h=>h1l h.2.1)]
  refine aE 44 ((.bool true)) rfl ((congrArg Value.bool (decide_eq_true aj))) (go ?_)
  refine jJ (U:=bh) zr zr zr zr zr (go ?_)
  (refine bL hE ?_;apply bH (U:=bh) hE Tryz.func111 rfl (aq.refl _);(repeat(first|exact ae.nil|apply ae.tmp rfl|apply ae.agg 2 zr zr zr zr zr));exact(.inl ⟨hd,⟨0,Dg.zero,none,0,0,rfl⟩,rfl⟩);exact ad)
 obtain⟨kb,rfl⟩:∃k,b1=[k]:=by
  match b1,h1l with
  | [k],_=>exact⟨k,rfl⟩
 refine aE 44 ((.bool false)) rfl ((congrArg Value.bool (decide_eq_false (by simp)))) (go ?_)
 refine cu 1 2 zr zr zr zr zr zr zr zr aj (go ?_)
 refine aY ?_
 refine aZ 0 (1*2+1) zr zr zr dH (Nat.add_assoc _ _ _) QW zr zr (go ?_)
 refine aeb (sV Z0 _ b2 qZ aj) ?_
 unfold dV
 refine go ?_
 refine aL zr zr zr bO ?_
 intro b8
 refine go ?_
 refine aU (p:=2) (q:=(eu.length:Int)) zr zr zr zr zr zr zr aj aj (.inl rfl) ?_
 ((refine au 55 ((.slice (sliceAt (some ⟨rb,ro,none⟩) rc 2 2) rest.length (rc-2))) rfl ((by rw[show(eu.length:Int).toNat=rest.length+2 from by omega,show(2:Int).toNat=2 from rfl,show rest.length+2-2=rest.length by omega];rfl)) ?_))
 have Hg:=dH.Kv (s:=2) (bR iy _) LR 2 aj
 have S5:(eu.flatMap kq).drop (2*2)=rest.flatMap kq:=by rw[Cw];rfl
 rw[S5,show eu.length-2=rest.length from by omega]at Hg
 have adw:∀x∈rest,eU Z0 x.v x.b:=fun x hx=>vv x (by rw[Cw];simp[hx])
 have hxr:∀x∈rest,x.b.length≤65536:=fun x hx=>Dr x.p (by rw[← mO,Cw];simp;right;right;exact⟨x,hx,rfl⟩)
 clear QW fD aaq lV I4 O7 hs mO vv Dr Cw
 refine go ?_
 refine al (bS 22 1 none _) ?_
 obtain⟨dh,hdh⟩:∃d,d=(ij b2).getD Dg.zero:=⟨_,rfl⟩
 rw[← hdh]
 refine bF (fun y:Nat × Option Addr × Nat=>y.1≤rest.length) (fun y=>rest.length-y.1)
  (fun y=>[(3,ptr b3),(6,.slice (some ⟨rb,ro,none⟩) eu.length rc),(8,ptr b8),(9,.bool (ij b2).isSome),(10,.slice y.2.1 y.1 y.2.2),(55,.slice (sliceAt (some ⟨rb,ro,none⟩) rc 2 2) rest.length (rc-2)),(56,.int .i64 (rest.length:Int)),(57,.int .i64 (y.1:Int))])
  (fun y=>aK 22 1 (.slice y.2.1 y.1 y.2.2) y.1 ((rest.take y.1).flatMap fun x=>[x.v])::Z0::X::ak b3 (cl (dC Dg.zero) 29)::ak b8 (cl (dC dh) 29)::F) (0,none,0) (Nat.zero_le _) rfl cF ad ?_
 rintro⟨j,ma,mc⟩ hj ih
 simp only at hj
 dsimp only
 refine go ?_
 refine aB zr zr ?_ ?_
 ·intro dk
  have tP:j<rest.length:=by omega
  obtain⟨it,NS⟩:∃x,rest[j]?=some x:=⟨rest[j],by simp⟩
  have Ki:=adw it (List.mem_of_getElem? NS)
  obtain⟨xn,xv,xb⟩:=it
  simp only at Ki
  obtain⟨va,vc,rfl,_⟩:=Ki.2
  have NJ:sliceAt (some ⟨rb,ro,none⟩) rc 2 2=some ⟨rb,ro+4,none⟩:=by
   unfold sliceAt
   rw[if_neg aj]
   rfl
  rw[NJ]at Hg
  refine aE 55 (.slice (some ⟨rb,ro+4,none⟩) rest.length (rc-2)) rfl (by rw[NJ]) (go ?_)
  refine cu j 2 zr zr zr zr zr zr zr zr tP ?_
  refine aY ?_
  refine cK (U:=bh) (es:=kq ⟨xn,.slice va xb.length vc,xb⟩) 1 (j*2) zr zr zr Hg rfl (fun q v hq=>?_) zr zr zr ?_
  ·rw[cM iy NS q (by rcases Nat.lt_or_ge q 2 with h|h;exact h;rw[List.getElem?_eq_none (by rw[iy];exact h)]at hq;cases hq)];exact hq
  refine aL zr zr zr bO ?_
  intro b12
  refine go ?_
  refine az (cs:=[.slice va xb.length vc]) zr zr zr zr zr zr zr zr zr bO ?_
  intro row
  refine go ?_
  have om:(rest.take (j+1)).flatMap (fun x=>[x.v])=(rest.take j).flatMap (fun x=>[x.v])++[.slice va xb.length vc]:=by rw[List.take_add_one,NS];simp
  refine bg (mm:=1) (news:=[.slice va xb.length vc]) 2 0 rfl rfl rfl rfl rfl rfl rfl rfl rfl rfl rfl rfl (Vw.ak rfl) rfl (by intro v hv;simp at hv;rw[hv];rfl) aj (by show(_+_)*24≤_;omega) (fun _=>rfl) bO ?_
  intro v1
  rw[← om]
  refine aN 2 rfl ?_
  rintro ja jc rfl
  refine go ?_
  refine aE 55 ((.slice (sliceAt (some ⟨rb,ro,none⟩) rc 2 2) rest.length (rc-2))) rfl ((by rw[NJ])) ?_
  refine aQ ih (j+1,ja,jc) rfl (by simp only;omega) (by simp only;omega) cF ad
 ·intro fO
  have Rq:j=rest.length:=by omega
  subst Rq
  rw[List.take_length]
  clear ih
  obtain⟨bb1,oo1,cc1,S4⟩:=nN.1.some (by simp[bV])
  simp only[Value.slice.injEq,true_and]at S4
  obtain⟨rfl,rfl⟩:=S4
  have ko:Vw Z0 (.slice (some ⟨bb1,oo1,none⟩) 1 c1) 1 (bV [kb]):=nN.1
  have EX:(rest.map It.b).length=rest.length:=List.length_map ..
  refine sA 0 rfl ?_
  intro jE
  refine eE 0 rfl ?_
  intro QX
  have oq:xh (Sep [aK 22 1 (.slice ma rest.length mc) rest.length (rest.flatMap fun x=>[x.v]),Z0]) (.slice ma rest.length mc) (rest.map It.b):=by
   rw[← EX]at QX jE ⊢
   refine xh.ofP QX jE (by rw[← HI];simp) (fun i z hz=>?_)
   rw[List.getElem?_map]at hz
   cases hx:rest[i]? with
   | none=>rw[hx]at hz;cases hz
   | some y =>
    rw[hx]at hz
    injection hz with hz
    subst hz
    exact⟨y.v,by rw[← HI,List.getElem?_map,hx];rfl,adw y (List.mem_of_getElem? hx)⟩
  have hmb:(rest.map It.p).map (·.2)=rest.map It.b:=by rw[List.map_map];rfl
  rw[hmb]at hre
  have hdd:∀d,ij b2=some d→jj b=some (kb,d,rest.map It.b):=fun d hd=>by
   grind [ij]
  have u3:ij b2=none→jj b=none:=fun hd=>by
   grind [ij]
  refine go ?_
  refine aO (fun w=>Sat G w ([Z0,ak b8 (cl (dC dh) 29)])) (dM 0 10 (.act 10 (.st 11 (.st 12 .nil)))) rfl aw aw aw dI ?_
  refine go ?_
  refine cu 0 2 zr zr zr zr zr zr zr zr aj (go ?_)
  refine aY ?_
  refine cQ 0 (0*2+1) zr zr zr dH (Nat.add_assoc _ _ _) Ds zr zr (go ?_)
  refine bW 0 zr zr zr zr zr zr zr zr (by simp) (go ?_)
  refine aY ?_
  refine cQ 0 0 zr zr zr ko zr zr zr zr (go ?_)
  refine dv (U:=bh) (l:=dC dh) 1 zr zr zr zr zr zr (go ?_)
  refine bE ?_
  refine gp (U:=bh) (l':=dC dh) 3 dI rfl rfl rfl rfl (by intro e;cases e) (by rw[fg];exact lz _) rfl rfl rfl ?_
  refine go ?_
  refine al (H':=Sep [aK 22 1 (.slice ma rest.length mc) rest.length (rest.flatMap fun x=>[x.v]),Z0]::X::ak b3 (cl (dC dh) 29)::ak b8 (cl (dC dh) 29)::F) (aq.trans ad (aq.cg [aK 22 1 (.slice ma rest.length mc) rest.length (rest.flatMap fun x=>[x.v]),Z0] _)) ?_
  cases hhb:ij b2 with
  | none =>
   simp only[Option.isSome_none]
   (refine bL hE ?_;apply bH (U:=bh) hE Tryz.func111 rfl (aq.refl _);(repeat(first|exact ae.nil|apply ae.tmp rfl|apply ae.agg 2 zr zr zr zr zr));exact(.inl ⟨u3 hhb,⟨kb,dh,_,_,_,rfl⟩,rfl⟩);exact ad)
  | some d =>
   rw[hhb]at hdh
   simp only[Option.getD_some]at hdh
   subst hdh
   simp only[Option.isSome_some]
   (refine bL hE ?_;apply bH (U:=bh) hE Tryz.func111 rfl (aq.refl _);(repeat(first|exact ae.nil|apply ae.tmp rfl|apply ae.agg 2 rfl rfl rfl rfl rfl));exact(.inr ⟨kb,dh,_,_,_,hdd dh hhb,oq,(fun x hx=>by obtain⟨y,hy,rfl⟩:=List.mem_map.1 hx;exact hxr y hy),aj,rfl,rfl⟩);exact ad)
end Go.Proofs.YtlionahpheehaaaGreatDoor
