import Derived.Test.YtlcoaflddajjcaaGreatDoorQNF2
import Derived.Test.YtlcoaflddajjcaaGreatDoorQNF3
import Derived.Test.YtlcoaflddajjcaaGreatDoorQNF4
import Derived.Test.YtlcoaflddajjcaaGreatDoorQNF5
import Derived.Test.YtlcoaflddajjcaaGreatDoorQNF6
import Derived.Test.YtlcoaflddajjcaaGreatDoorQNF8
import Derived.Test.YtlcoaflddajjcaaGreatDoorQNF9
set_option linter.unusedSectionVars false
set_option linter.unusedSimpArgs false
set_option linter.unusedVariables false
set_option maxHeartbeats 1000000
set_option maxRecDepth 20000
set_option linter.defProp false
namespace Go.Proofs.YtlcoaflddajjcaaGreatDoor
open Go Go.SL
def stE(bs bd:Nat)(q:Int)(mb:Nat):HP:=fun h=>∃b,ae bs (cl (dg bd q mb b) 146) h
def Ep(bs bd:Nat)(q:Int)(mb:Nat)(b:Bool)(H:List HP):ao (ae bs (cl (dg bd q mb b) 146)::H) (stE bs bd q mb::H) :=
 ao.fold (B:=[_]) fun h' hs=>⟨h',sub.refl h',b,dp hs⟩
def Lh{G:ct}{w:World}{bs bd:Nat}{q:Int}{mb:Nat}{H:List HP}(hw:Sat G w (stE bs bd q mb::H)):w.cell? ⟨bs,0,none⟩=some (ptr bd):=by
 obtain⟨h,hh,b,hA⟩:=hw.jF (i:=0) rfl
 have hb:h bs=some (cl (dg bd q mb b) 146):=by rw[hA bs,if_pos rfl]
 exact dE hh (by unfold dt;rw[hb];rfl)
attribute [local irreducible] J K au Ends ae aB aI bB aW aS a7 aX bF Sha.chunks Sha.chunk Sha.rounds Sha.sched ej cz GI dq aC
section
variable{P:Program}{f:FuncId}{n:Nat}{R:Ending→World→Prop}{G:ct}{L:eH}{H:List HP}{S:World→Prop}{all:Array Oper}{rest:Pl}
def acW{k k':List Item}{α:Type}(I:α→Prop)(Lf:α→eH)(Hf:α→List HP)(hk:fZ 1000 k = .mk k')(tail:∀y,I y→K P f n R G k' (Lf y) (Hf y))(h:(∀y,I y→K P f n R G k' (Lf y) (Hf y))→J P f n R G S all rest k L H):J P f n R G S all rest k L H:=h tail
def Z3{k k':List Item}{α:Type}(m:Nat)(I:α→Prop)(Lf:α→eH)(Hf:α→List HP)(hk:fZ 1000 (k.drop m) = .mk k')(tail:∀y,I y→K P f n R G k' (Lf y) (Hf y))(h:(∀y,I y→K P f n R G k' (Lf y) (Hf y))→J P f n R G S all rest k L H):J P f n R G S all rest k L H:=h tail
end
theorem K3{A:Ab}{cq:List (Dg × Bl)}{brk:Bool}(h:H8 A)(hb:py cq):0≤nO ⟨A,cq,brk⟩∧nO ⟨A,cq,brk⟩≤1048786000000:=by
 have h1:=G4 cq (cq.map (·.1)) hb.1
 rw[Cu cq _ (fun x hx=>List.mem_map.2 ⟨x,hx,rfl⟩)]at h1
 have h2:=vv (h.nodup _ (List.mem_cons_self ..))
 have h3:=sW (eW A) (mB A) 1048576 (fun x _=>AK h x)
 have h4:=nt h
 have h5:=hb.2
 grind [nO]
theorem Ns(l:List (Dg × Bl))(x:Bl)(h:yz l x.d=none):jG (du l) x.d (jU x)=du (l++[(x.d,x)]):=by
 have hn:x.d ∉ (du l).map (·.1):=by
  rw[← xy,tN,h];rfl
 grind [jG,du]
theorem D5(bs bd:Nat)(q:Int)(hq:0≤q∧q≤1073741824)(mb:Nat)(s:ml)(x:Bl)(M6:py s.cq)(dK:s.A.aV.length≤900000000)(ir:s.A.writes.length≤900000000) :
  au Tryz.prog 64 [ptr bs,jU x] (jo bs bd q mb s)
  (fun r H=>∃(e:Nat) (t:ml),r = .int .i64 (e:Int)∧H=jo bs bd q mb t∧e7 q x s e t):=by
 obtain⟨A,cq,brk⟩:=s
 have abK:=Qc bs bd q mb ⟨A,cq,brk⟩ M6
 obtain⟨sO,rR⟩:=M6
 simp only at dK ir sO rR
 have qC:=pW x
 have Zh:=H6 bs bd q mb brk A x.d
 refine au.ak Tryz.func64 Tryz.ntmps64 fun G F R hE=>?_
 refine aD rfl ?_
 refine bu zr zr bh ?_
 intro b2
 refine bu zr zr bh ?_
 intro b3
 refine oe ?_
 refine aL (fun w=>Sat G w ([ae b3 (cl (ck x) 77),ae b2 (cl [ptr bs] 91),ae bs (cl (dg bd q mb brk) 146),aI dV mb (du cq)])) (cJ 0 10 (.act 10 (.act 11 (.st 12 .nil)))) rfl ah ah ah dv ?_
 refine acW (fun YJ:Bool=>YJ=(yz cq x.d).isSome) (fun YJ=>[(2,ptr b2),(3,ptr b3),(6,.bool YJ)]) (fun _=>ae b3 (cl (ck x) 77)::ae b2 (cl [ptr bs] 91)::ae bs (cl (dg bd q mb brk) 146)::aI dV mb (du cq)::aC bd A::F) rfl ?_ ?_
 ·rintro YJ Py
  have hB0:brk=true→e7 q x ⟨A,cq,brk⟩ 10 ⟨A,cq,brk⟩:=fun h=>by unfold e7;rw[if_pos h];exact⟨rfl,rfl⟩
  have hB1:¬brk=true→bJ x=false→e7 q x ⟨A,cq,brk⟩ 1 ⟨A,cq,brk⟩:=fun h h1=>by unfold e7;rw[if_neg h,if_pos h1];exact⟨rfl,rfl⟩
  have ZC:¬brk=true→¬bJ x=false→(YJ=true∨nZ A (fB x)=true)→e7 q x ⟨A,cq,brk⟩ 5 ⟨A,cq,brk⟩:=fun h h1 h2=>by unfold e7;rw[Py]at h2;rw[if_neg h,if_neg h1,if_pos h2];exact⟨rfl,rfl⟩
  have hB3:∀e t,¬brk=true→¬bJ x=false→¬(YJ=true∨nZ A (fB x)=true)→(if q<nO ⟨A,cq,brk⟩+x.size then e=11∧t=⟨A,cq,brk⟩
    else if nZ A (fS x)then e=0∧t=⟨A,cq++[(x.d,x)],brk⟩
    else ∃e1 s1,P7 [iO (fS x),ff] ⟨A,cq,brk⟩ e1 s1∧((e1≠0∧e=e1∧t=s1)∨(e1=0∧e=0∧t=⟨s1.A,s1.cq++[(x.d,x)],s1.brk⟩)))→e7 q x ⟨A,cq,brk⟩ e t:=fun e t h h1 h2 h3=>by
   unfold e7;rw[Py]at h2;rw[if_neg h,if_neg h1,if_neg h2];exact h3
  cases brk with
  | true =>
   refine go ?_
   refine ad hE Tryz.func64 zr zr ⟨10,⟨A,cq,true⟩,rfl,rfl,hB0 rfl⟩
  | false =>
   refine sm (bd:=bd) (A:=A) 4 rfl ?_
   intro FB
   have hul:=K3 (brk:=false) FB ⟨sO,rR⟩
   refine go ?_
   refine aO (U:=aU) (l:=ck x) 0 zr zr zr zr zr zr ?_
   refine aw qC ?_
   cases hr:bJ x with
   | false =>
    refine go ?_
    refine ad hE Tryz.func64 zr zr ⟨1,⟨A,cq,false⟩,rfl,rfl,hB1 (by simp) hr⟩
   | true =>
    have Oj:¬bJ x=false:=by rw[hr];simp
    have MH:=hr
    simp only[bJ,decide_eq_true_eq]at MH
    cases YJ with
    | true =>
     refine go ?_
     refine ad hE Tryz.func64 zr zr ⟨5,⟨A,cq,false⟩,rfl,rfl,ZC (by simp) Oj (.inl rfl)⟩
    | false =>
     refine go ?_
     refine bP 0 zr zr zr zr zr zr ?_
     ((refine go ?_;(refine aF Zh ?_)))
     rintro _ _⟨rfl,rfl⟩
     cases hhb:nZ A (eS kB x.d)with
     | true =>
      refine go ?_
      refine ad hE Tryz.func64 zr zr ⟨5,⟨A,cq,false⟩,rfl,rfl,ZC (by simp) Oj (.inr hhb)⟩
     | false =>
      have tz:¬(false=true∨nZ A (fB x)=true):=by
       grind [nZ,fB]
      refine go ?_
      refine aL (fun w=>Sat G w ([ae b3 (cl (ck x) 77),ae b2 (cl [ptr bs] 91),ae bs (cl (dg bd q mb false) 146)])) (.st 0 (.st 2 (.st 3 (cJ 5 4 (.act 1 (.st 4 (.st 9 (.st 10 .nil)))))))) rfl ah ah ah dv ?_
      refine go ?_
      refine bE abK ?_
      refine go ?_
      refine aq zr zr ?_ ?_
      ·intro hqu
       have Ol:q<nO ⟨A,cq,false⟩+x.size:=hqu
       refine go ?_
       ((refine ad hE Tryz.func64 zr zr ⟨11,⟨A,cq,false⟩,rfl,rfl,hB3 _ _ (by simp) Oj tz (by rw[if_pos Ol];exact⟨rfl,rfl⟩)⟩))
      ·intro hqu
       have Ol:¬q<nO ⟨A,cq,false⟩+x.size:=hqu
       refine al (ao.pick [3,4] rfl) (go ?_)
       refine bP 0 zr zr zr zr zr zr ?_
       refine aw (ZH x) ?_
       refine az zr zr zr bh ?_
       intro b7
       refine go ?_
       refine aw (My bs bd q mb false A (fS x)) ?_
       refine Z3 1 (fun B:Ab=>e7 q x ⟨A,cq,false⟩ 0 ⟨B,cq++[(x.d,x)],false⟩) (fun B=>[(2,ptr b2),(3,ptr b3)]) (fun B=>ae b3 (cl (ck x) 77)::ae b2 (cl [ptr bs] 91)::ae bs (cl (dg bd q mb false) 146)::aI dV mb (du cq)::aC bd B::F) rfl ?_ ?_
       ·intro B Jz
        have iW:=Ns cq x (by cases h:yz cq x.d with|none=>rfl|some y=>rw[h]at Py;cases Py)
        refine aL (fun w=>Sat G w ([ae b3 (cl (ck x) 77),ae b2 (cl [ptr bs] 91),ae bs (cl (dg bd q mb false) 146)])) (cJ 0 7 (.act 7 .nil)) rfl ah ah ah dv ?_
        refine go ?_
        refine cC (U:=aU) 0 zr zr zr zr zr zr (go ?_)
        refine cC (U:=aU) (cs:=ck x) 0 zr zr zr zr zr zr (go ?_)
        refine eB (es:=du cq) (key:=x.d) (v:=jU x) 3 YI (fun _ _=>by exact trivial) zr zr zr zr zr zr zr zr ?_
        rw[iW]
        refine go ?_
        refine ad hE Tryz.func64 zr zr ⟨0,⟨B,cq++[(x.d,x)],false⟩,rfl,rfl,Jz⟩
       ·intro tail
        cases hsf:nZ A (fS x)with
        | true =>
         refine go ?_
         refine mi tail A rfl (hB3 _ _ (by simp) Oj tz (by rw[if_neg Ol,if_pos hsf];exact⟨rfl,rfl⟩)) bS ag
        | false =>
         have Fp:∀(i:Nat) (fv:Value) (sp:KR),[.func (.func 138) #[] #[ptr b2,ptr b7],.func (.func 61) #[ptr bd] #[] ][i]?=some fv→[iO (fS x),ff][i]?=some sp→∃g fi cap,fv = .func (.func g) fi cap∧∀y,GQ A i y→au Tryz.prog g (fi.toList++cap.toList) [sG bs bd q mb false (Sep [ae b2 (cl [ptr bs] 91),ae b7 (cl [.string (fS x)] 9)]) y] (fun r H=>∃(e:Nat) (x':Ab),r = .int .i64 (e:Int)∧H=[sG bs bd q mb false (Sep [ae b2 (cl [ptr bs] 91),ae b7 (cl [.string (fS x)] 9)]) x']∧sp y e x'∧(e=0→GQ A (i+1) x')):=by
          intro i fv sp hi hs
          match i,hi,hs with
          | 0,hi,hs =>
           cases hi;cases hs
           refine⟨_,_,_,rfl,fun y hy=>?_⟩
           refine(HI (p:=iO (fS x) y) (F4 bs bd b2 b7 q mb false (fS x) y (by have:=hy.1;omega))).post ?_
           rintro r H⟨e,B,rfl,rfl,h1⟩
           exact⟨e,B,rfl,rfl,h1,fun _=>hy.next (qj h1)⟩
          | 1,hi,hs =>
           cases hi;cases hs
           refine⟨_,_,_,rfl,fun y hy=>(OZ bs bd q mb false [ae b2 (cl [ptr bs] 91),ae b7 (cl [.string (fS x)] 9)] y).post ?_⟩
           rintro r H⟨e,B,rfl,rfl,h1⟩
           exact⟨e,B,rfl,rfl,h1,fun _=>hy.next (mM h1)⟩
          | k+2,hi,hs=>simp at hi
         refine go ?_
         refine aL (fun w=>Sat G w [stE bs bd q mb,ae b2 (cl [ptr bs] 91)]) (cJ 0 7 (.act 7 (.act 8 (.st 9 .nil)))) rfl ah ah ah (fun w hw=>hw.cu (ao.trans (H2:=[ae bs (cl (dg bd q mb false) 146),ae b2 (cl [ptr bs] 91)]) ag (Ep bs bd q mb _ _))) ?_
         refine go ?_
         refine aP ?_
         refine kQ zr zr (fun w hw=>Lh hw) zr zr ?_
         refine go ?_
         refine aj (cs:=[.func (.func 138) #[] #[ptr b2,ptr b7],.func (.func 61) #[ptr bd] #[] ]) zr zr zr zr zr zr zr zr zr (fun _ w hw=>by exact hw.cu (ao.trans (H2:=[ae bs (cl (dg bd q mb false) 146),ae b2 (cl [ptr bs] 91)]) ag (Ep bs bd q mb _ _))) ?_
         intro row
         have PG:=Dc bs bd q mb false (Sep [ae b2 (cl [ptr bs] 91),ae b7 (cl [.string (fS x)] 9)]) (ae row (cl [.func (.func 138) #[] #[ptr b2,ptr b7],.func (.func 61) #[ptr bd] #[] ] 101)) (.slice (some ⟨row,0,none⟩) 2 2) [.func (.func 138) #[] #[ptr b2,ptr b7],.func (.func 61) #[ptr bd] #[] ] (Vw.ae rfl) (by show 2≤_;omega) [iO (fS x),ff] rfl (GQ A) Fp A (GQ.zero A)
         refine aN (H':=ae row (cl [.func (.func 138) #[] #[ptr b2,ptr b7],.func (.func 61) #[ptr bd] #[] ] 101)::sG bs bd q mb false (Sep [ae b2 (cl [ptr bs] 91),ae b7 (cl [.string (fS x)] 9)]) A::aI dV mb (du cq)::ae b3 (cl (ck x) 77)::F) (ao.trans (H2:=ae bs (cl (dg bd q mb false) 146)::aC bd A::([ae b2 (cl [ptr bs] 91),ae b7 (cl [.string (fS x)] 9)]++(ae row (cl [.func (.func 138) #[] #[ptr b2,ptr b7],.func (.func 61) #[ptr bd] #[] ] 101)::aI dV mb (du cq)::ae b3 (cl (ck x) 77)::F))) ag (ao.trans (Lg bs bd q mb false _ A _) ag)) ?_
         refine de zr zr zr zr PG ag ?_ (fun _ _ w hp hw=>by
          obtain⟨e,B,rfl,rfl,k8,_⟩:=hp
          exact hw.cu (ao.trans (ao.pick [1] rfl) (ao.trans (Al bs bd q mb (or false (decide (e≠0))) _ B _) (ao.trans (H2:=[ae bs (cl (dg bd q mb (or false (decide (e≠0)))) 146),ae b2 (cl [ptr bs] 91)]) ag (Ep bs bd q mb _ _)))))
         rintro _ _⟨e,B,rfl,rfl,k8,-⟩
         refine aN (ao.trans (ao.pick [1] rfl) (Al bs bd q mb (or false (decide (e≠0))) _ B _)) ?_
         have j9:∀e' t,(∃e1 s1,P7 [iO (fS x),ff] ⟨A,cq,false⟩ e1 s1∧((e1≠0∧e'=e1∧t=s1)∨(e1=0∧e'=0∧t=⟨s1.A,s1.cq++[(x.d,x)],s1.brk⟩)))→e7 q x ⟨A,cq,false⟩ e' t:=fun e' t h=>hB3 e' t (by simp) Oj tz (by rw[if_neg Ol,if_neg (by rw[hsf];simp)];exact h)
         refine go ?_
         refine aq zr zr ?_ ?_
         ·intro aeO
          have he:e≠0:=by omega
          refine go ?_
          refine ad hE Tryz.func64 zr zr ⟨e,⟨B,cq,or false (decide (e≠0))⟩,rfl,rfl,j9 _ _ ⟨e,_,⟨B,k8,rfl⟩,.inl ⟨he,rfl,rfl⟩⟩⟩
         ·intro aeZ
          have he:e=0:=by omega
          subst he
          refine go ?_
          refine mi tail B rfl (j9 _ _ ⟨0,_,⟨B,k8,rfl⟩,.inr ⟨rfl,rfl,rfl⟩⟩) bS ag
 ·intro tail
  refine go ?_
  refine cC (U:=aU) 0 zr zr zr zr zr zr (go ?_)
  refine pw (U:=aU) (es:=du cq) (key:=x.d) rfl YI zr zr zr zr zr zr zr (fun w hw=>hw.k9 (i:=3) rfl) ?_
  rw[tN]
  cases hb:yz cq x.d with
  | none =>
   rw[hb]at tail
   refine go ?_
   refine az zr zr zr (fun _ w hw=>hw.cu ag) ?_
   intro b5
   refine oe ?_
   (refine aY ?_;(refine bN 0 dv zr zr zr zr zr zr zr zr zr ?_))
   refine oe ?_
   refine mi tail false zr zr bS ag
  | some y =>
   rw[hb]at tail
   refine go ?_
   refine az zr zr zr (fun _ w hw=>hw.cu ag) ?_
   intro b5
   refine oe ?_
   (refine aY ?_;(refine bN 0 dv zr zr zr zr zr zr zr zr zr ?_))
   refine oe ?_
   refine mi tail true zr zr bS ag
end Go.Proofs.YtlcoaflddajjcaaGreatDoor
namespace Go.Proofs.YtlcoaflddajjcaaGreatDoor
open Go Go.SL
attribute [local irreducible] J K au Ends ae aB aI bB aW aS a7 aX bF Sha.chunks Sha.chunk Sha.rounds Sha.sched ej cz GI dq aC
theorem Fc{A:Ab}(h:A.names=[]):eW A=[]:=by
 grind [nr]
def oq{kind:List UInt8}{right:Ab→Dg→Bool}{A B:Ab}{e:Nat}(h:A.names=[])(hs:dX kind right A e B):e=0∧B=A:=by
 unfold dX at hs
 rw[Fc h]at hs
 exact hs
theorem xE{A B:Ab}{e:Nat}(h:A.names=[])(ho:pg A e B):e=0∧B=A:=by
 obtain⟨e1,A1,⟨e2,A2,h2,c2⟩,j9⟩:=ho
 obtain⟨rfl,rfl⟩:=oq h h2
 rcases c2 with⟨fu,_⟩|⟨_,e3,A3,h3,c3⟩
 ·grind
 obtain⟨rfl,rfl⟩:=oq h h3
 rcases c3 with⟨fu,_⟩|⟨_,e4,A4,h4,c4⟩
 ·grind
 obtain⟨rfl,rfl⟩:=oq h h4
 rcases c4 with⟨fu,_⟩|⟨_,rfl,rfl⟩
 ·grind
 grind
theorem HR{b:List UInt8}{k:Int}{x:Bl}(h:o7 b k=some x):bJ x=true∧x.size=b.length∧x.piece=k∧KX x b=true:=by
 grind [o7,iT,bJ,KX]
def sh(n:Nat)(s t:ml):Prop:=t.A.aV.length≤s.A.aV.length+n∧t.A.writes.length≤s.A.writes.length+n
def JA(ss:List KR)(hs:∀sp∈ss,∀A e B,sp A e B→ko A B)(A:Ab)(e:Nat)(B:Ab)(h:mh ss A e B):B.aV.length≤A.aV.length+ss.length∧B.writes.length≤A.writes.length+ss.length:=by
 induction ss generalizing A with
 | nil=>obtain⟨_,rfl⟩:=h;exact⟨Nat.le_refl _,Nat.le_refl _⟩
 | cons sp ss ih =>
  obtain⟨e1,A1,h1,hc⟩:=h
  have g:=hs sp (List.mem_cons_self ..) _ _ _ h1
  have g1:=g.1
  have g2:=g.2
  simp only[List.length_cons]
  rcases hc with⟨_,_,rfl⟩|⟨_,h2⟩
  ·omega
  ·have:=ih (fun s h=>hs s (List.mem_cons_of_mem _ h)) A1 h2
   omega
def JB{ss:List KR}(hs:∀sp∈ss,∀A e B,sp A e B→ko A B){s t:ml}{e:Nat}(h:P7 ss s e t):sh ss.length s t:=by
 obtain⟨B,h,rfl⟩:=h
 exact JA ss hs _ _ _ h
theorem sh.refl(n:Nat)(s:ml):sh n s s:=⟨ai,ai⟩
theorem uM{q:Int}{x:Bl}{s t:ml}{e:Nat}(h:e7 q x s e t):sh 2 s t:=by
 unfold e7 at h
 split at h
 ·grind [sh.refl]
 split at h
 ·grind [sh.refl]
 split at h
 ·grind [sh.refl]
 split at h
 ·grind [sh.refl]
 split at h
 ·rw[h.2];exact sh.refl 2 s
 ·obtain⟨e1,s1,hc,hd⟩:=h
  have g:=JB (ss:=[iO (fS x),ff]) (fun sp Hc A e B hh=>by
   simp only[List.mem_cons,List.not_mem_nil,or_false]at Hc
   rcases Hc with rfl|rfl
   ·exact qj hh
   ·exact mM hh) hc
  rcases hd with⟨_,_,rfl⟩|⟨_,_,rfl⟩ <;> exact g
def GF{A:Ab}(h:HA A)(m:Nat)(hm:∀n c,vw A n=some c→c.length≤m):A.used≤A.names.length*m:=by
 unfold Ab.used
 refine sW A.names _ m fun x hx=>?_
 refine hm x.1 _ ?_
 unfold vw
 rw[eA h.keys hx]
 rfl
end Go.Proofs.YtlcoaflddajjcaaGreatDoor
namespace Go.Proofs.YtlcoaflddajjcaaGreatDoor
open Go Go.SL
variable{A B:Ab}{k n nm:ByteArray}{K':List ByteArray}{e:Nat}
abbrev Vm:=ByteArray→Option (List UInt8)
structure xC(K:List ByteArray)(v:Vm):Prop where
 nd:K.Nodup
 mem:∀n,n∈K↔(v n).isSome=true
def Oe(w:ByteArray→List UInt8→Nat)(K:List ByteArray)(v:Vm):Nat:=(K.map fun k=>w k ((v k).getD [])).sum
def kX(v:Vm)(k:ByteArray)(o:Option (List UInt8)):Vm:=fun n=>if n=k then o else v n
def lH(v:Vm)(k:ByteArray)(o:Option (List UInt8)):kX v k o k=o:=if_pos rfl
def kr(v:Vm)(o:Option (List UInt8))(h:n≠k):kX v k o n=v n:=if_neg h
def xC.perm{K:List ByteArray}{v:Vm}(h:xC K v)(h':xC K' v):K.Perm K':=(List.perm_ext_iff_of_nodup h.nd h'.nd).2 fun n=>(h.mem n).trans (h'.mem n).symm
def La{K:List ByteArray}{v:Vm}(w:ByteArray→List UInt8→Nat)(h:xC K v)(h':xC K' v):Oe w K v=Oe w K' v:=((h.perm h').map _).sum_nat
theorem xC.add{K:List ByteArray}{v:Vm}(h:xC K v)(hk:v k=none)(c:List UInt8):xC (k::K) (kX v k (some c)):=by
 refine⟨List.nodup_cons.2 ⟨fun hm=>?_,h.nd⟩,fun n=>?_⟩
 ·have:=(h.mem k).1 hm
  grind
 ·rw[List.mem_cons]
  by_cases hn:n=k
  ·simp[hn,lH]
  ·rw[kr _ _ hn,← h.mem n]
   simp[hn]
theorem GH{K:List ByteArray}{v:Vm}{c:List UInt8}(w:ByteArray→List UInt8→Nat)(h:xC K v)(h':xC K' (kX v k (some c)))(hk:v k=none):Oe w K' (kX v k (some c))=w k c+Oe w K v:=by
 rw[La w h' (h.add hk c)]
 unfold Oe
 rw[List.map_cons,List.sum_cons,lH]
 congr 1
 have hnk:∀n∈K,n≠k:=fun n hn e=>by
  have:=(h.mem n).1 hn
  grind
 exact congrArg List.sum (List.map_congr_left fun x hx=>by rw[kr _ _ (hnk x hx)])
theorem Oy(K:List ByteArray)(v:Vm)(m:Nat):Oe (fun _ _=>m) K v=K.length*m:=by
 unfold Oe
 induction K with
 | nil=>simp
 | cons x l ih =>
  grind
def mem_keys(h:HA A)(n:ByteArray):n∈gj A↔(vw A n).isSome=true:=by
 unfold gj vw
 constructor
 ·intro hn
  obtain⟨x,hx,rfl⟩:=List.mem_map.1 hn
  rw[eA h.keys hx]
  rfl
 ·intro hn
  cases hl:A.look n with
  | none=>rw[hl]at hn;cases hn
  | some f=>exact List.mem_map.2 ⟨_,gB hl,rfl⟩
def HA.Yn(h:HA A):xC (gj A) (vw A):=⟨h.keys,mem_keys h⟩
def O6(_:ByteArray)(c:List UInt8):Nat:=c.length
def YD(h:HA A){x:ByteArray × Nat}(hx:x∈A.names):A.now x.2=(vw A x.1).getD []:=by
 unfold vw
 rw[eA h.keys hx]
 rfl
theorem K2(h:HA A):A.used=Oe O6 (gj A) (vw A):=by
 unfold Ab.used Oe gj O6
 rw[List.map_map]
 exact congrArg List.sum (List.map_congr_left fun x hx=>by simp only[Function.comp];rw[YD h hx])
def I2(A:Ab):(gj A).length=A.names.length:=by unfold gj;rw[List.length_map]
theorem O5(A:Ab):A.names.length=Oe (fun _ _=>1) (gj A) (vw A):=by rw[Oy,I2];omega
def HA.HM(h:HA A){f:Nat}(hv:vw A nm=none)(hl:A.names.length<200)(hf:f ∉ A.fs.map (·.1))(hB:(e,B)=A.create true nm f) :
  e=0∧HA B∧vw B=kX (vw A) nm (some [])∧B.room=A.room :=
 let ⟨h1,h2,h3,_,h5⟩:=h.create hv hl hf hB;⟨h1,h2,funext h3,h5⟩
def HA.KU(h:HA A){c:List UInt8}(hv:vw A nm=some c)(at_:Nat)(b:List UInt8)(hr:A.used+(at_+b.length)≤A.room)(hB:(e,B)=A.write true nm at_ b) :
  e=0∧HA B∧vw B=kX (vw A) nm (some (eU c at_ b))∧B.room=A.room :=
 let ⟨h1,h2,h3,_,h5⟩:=h.write hv at_ b hr hB;⟨h1,h2,funext h3,h5⟩
def HA.Qu(h:HA A){c:List UInt8}(hv:vw A nm=some c)(hB:(e,B)=A.sync true nm) :
  e=0∧HA B∧vw B=vw A∧B.room=A.room :=
 let ⟨h1,h2,h3,_,h5⟩:=h.sync hv hB;⟨h1,h2,funext h3,h5⟩
def HA.vE(h:HA A)(hB:(e,B)=A.cF):e=0∧HA B∧vw B=vw A∧B.room=A.room :=
 let ⟨h1,h2,h3,_,h5⟩:=h.cF hB;⟨h1,h2,funext h3,h5⟩
def HA.GW(h:HA A){o:ByteArray}{c:List UInt8}(fu:o≠n)(hv:vw A o=some c)(KG:vw A n=none)(hB:(e,B)=A.rename true o n) :
  e=0∧HA B∧vw B=kX (kX (vw A) o none) n (some c)∧B.room=A.room :=
 let ⟨h1,h2,h3,h4,_⟩:=h.rename fu hv KG hB;⟨h1,h2,funext h3,h4⟩
theorem HA.q4(h:HA A)(h':HA B){c:List UInt8}(hk:vw A k=none)(hv:vw B=kX (vw A) k (some c)):B.used=A.used+c.length∧B.names.length=A.names.length+1:=by
 have hs:=h'.Yn
 rw[hv]at hs
 have h1:=GH O6 h.Yn hs hk
 have h2:=GH (fun _ _=>1) h.Yn hs hk
 grind [K2,O5,O6]
theorem G7(hn:isName nm=true)(at_:Nat)(b:List UInt8)(h:at_+b.length≤1048576):iy nm (at_:Int) b=true:=by
 grind [iy]
theorem EV{A':Ab}{x:JN}(h:HA A)(hn:isName nm=true)(hf:isName (bU nm)=true)(fu:bU nm≠nm)(hv:vw A nm=none)(Fm:vw A (bU nm)=none)(hl:A.names.length<200)(hr:A.used+32≤A.room)(hR:ph A nm e A' x) :
  e=0∧HA A'∧vw A'=kX (vw A) nm (some (cD []))∧A'.room=A.room∧x=⟨1,0,0,false⟩∧jT A nm=[]:=by
 have sM:jT A nm=[]:=by
  have Hl:A.look nm=none:=by
   unfold vw at hv
   cases hx:A.look nm with
   | none=>rfl
   | some f=>rw[hx]at hv;cases hv
  have u4:(A.read nm 0 (A.size nm).1).1=[]:=by
   unfold Ab.read
   grind
  unfold jT
  rw[u4]
  rfl
 unfold ph at hR
 rw[if_neg (by rw[hn,hf];simp),if_neg (by rw[h.on];simp),sM]at hR
 obtain⟨y,k8,rfl,rfl⟩:=hR
 unfold Ge gx at k8
 have iJ:(A.size (bU nm)).2=4:=by
  have Hl:A.look (bU nm)=none:=by
   unfold vw at Fm
   cases hx:A.look (bU nm)with
   | none=>rfl
   | some f=>rw[hx]at Fm;cases Fm
  unfold Ab.size
  rw[Hl]
 simp only[iJ]at k8
 rw[if_neg ai,List.nil_append]at k8
 have ir:(cD []).length=32:=by unfold cD;simp[pO]
 obtain⟨e1,x1,⟨⟨f,h1f,h1a,h1b⟩,h1c⟩,c1⟩:=k8
 rw[hf]at h1a h1b
 obtain⟨g0,g1,g2,g3⟩:=h.HM Fm hl h1f (B:=x1.1) (e:=e1) (by rw[h1a,h1b])
 subst g0
 rcases c1 with⟨jS,_⟩|⟨_,e2,x2,⟨⟨h2a,h2b⟩,h2c⟩,c2⟩
 ·grind
 have hw:iy (bU nm) 0 (cD [])=true:=by
  grind [G7,cD]
 rw[hw]at h2a h2b
 obtain⟨hu,MQ⟩:=h.q4 g1 Fm g2
 obtain⟨k0,k1,k2,k3⟩:=g1.KU (nm:=bU nm) (c:=[]) (by rw[g2,lH]) 0 (cD []) (by rw[hu,g3];simp only[List.length_nil];omega) (B:=x2.1) (e:=e2) (by rw[h2a,h2b])
 subst k0
 rcases c2 with⟨jS,_⟩|⟨_,e3,x3,⟨⟨h3a,PO⟩,h3c⟩,c3⟩
 ·grind
 rw[hf]at h3a PO
 have xV:eU [] 0 (cD [])=cD []:=by unfold eU;simp
 rw[xV]at k2
 obtain⟨m0,m1,m2,m3⟩:=k1.Qu (nm:=bU nm) (c:=cD []) (by rw[k2,lH]) (B:=x3.1) (e:=e3) (by rw[h3a,PO])
 subst m0
 rcases c3 with⟨jS,_⟩|⟨_,e4,x4,⟨⟨h4a,h4b⟩,h4c⟩,c4⟩
 ·grind
 have fI:[bU nm,nm].all isName=true:=by simp[hf,hn]
 rw[fI]at h4a h4b
 obtain⟨p0,p1,p2,p3⟩:=m1.GW (o:=bU nm) (n:=nm) (c:=cD []) fu (by rw[m2,k2,lH]) (by rw[m2,k2,kr _ _ (fun e=>fu e.symm),g2,kr _ _ (fun e=>fu e.symm)];exact hv) (B:=x4.1) (e:=e4) (by rw[h4a,h4b])
 subst p0
 rcases c4 with⟨jS,_⟩|⟨_,e5,x5,⟨⟨h5a,h5b⟩,h5c⟩,c5⟩
 ·grind
 obtain⟨q0,q1,q2,q3⟩:=p1.vE (B:=x5.1) (e:=e5) (by rw[h5a,h5b])
 subst q0
 rcases c5 with⟨jS,_⟩|⟨_,e6,x6,⟨h6a,h6b⟩,c6⟩
 ·grind
 subst h6a
 rcases c6 with⟨jS,_⟩|⟨_,he,hy⟩
 ·grind
 subst he
 rw[hy,h6b]
 simp only
 refine⟨trivial,q1,?_,by rw[q3,p3,m3,k3,g3],by simp,sM⟩
 rw[q2,p2,m2,k2,g2]
 funext m
 unfold kX
 grind
def sD(name:ByteArray)(A:Ab)(x:JN)(ls:List (List UInt8))(e:Nat)(A':Ab)(x':JN):Prop :=
 if x.br then e=10∧A'=A∧x'=x else if ls.any (fun b=>decide (4096<b.length))then e=1∧A'=A∧x'=x else if 524288<(ls.flatMap cQ).length then e=3∧A'=A∧x'=x
 else ∃y:PS,Ge name ls (A,x.n,x.s,x.c) e y∧A'=y.1∧x'=⟨y.2.1,y.2.2.1,y.2.2.2,decide (e≠0)⟩
theorem OO{l:List (ByteArray × Nat)}{f:Nat}(h1:(l.map (·.1)).Nodup)(h2:(l.map (·.2)).Nodup)(hf:∀x∈l,x.2≠f):((l.map fun x=>if x.1=n then(n,f)else x).map (·.2)).Nodup:=by
 unfold List.Nodup at h1 h2 ⊢
 rw[List.pairwise_map]at h1 h2
 rw[List.pairwise_map,List.pairwise_map]
 refine List.Pairwise.imp_of_mem ?_ (List.Pairwise.and h1 h2)
 grind
theorem LB(l:List (ByteArray × Nat))(n:ByteArray)(f:Nat):(l.map fun x=>if x.1=n then(n,f)else x).map (·.1)=l.map (·.1):=by
 rw[List.map_map]
 refine List.map_congr_left fun x _=>?_
 grind
theorem HA.OP(h:HA A){o:ByteArray}{c d:List UInt8}(fu:o≠n)(hv:vw A o=some c)(KG:vw A n=some d)(hB:(e,B)=A.rename true o n) :
    e=0∧HA B∧vw B=kX (kX (vw A) o none) n (some c)∧B.room=A.room:=by
  obtain⟨f,hf,rfl⟩:∃f,A.look o=some f∧A.now f=c:=by
    unfold vw at hv
    cases hx:A.look o with
    | none=>rw[hx]at hv;cases hv
    | some f=>rw[hx]at hv;injection hv with hv;exact⟨f,rfl,hv⟩
  obtain⟨g,hg⟩:∃g,A.look n=some g:=by
    unfold vw at KG
    cases hx:A.look n with
    | none=>rw[hx]at KG;cases KG
    | some g=>exact⟨g,rfl⟩
  have Pu:Ab.dy (Ab.ez A.names o) n=some g:=by
    rw[rM,if_neg (fun e=>fu e.symm)]
    exact hg
  obtain⟨N,hN⟩:∃N,N=(Ab.ez A.names o).map (fun x=>if x.1=n then(n,f)else x):=⟨_,rfl⟩
  have iW:Ab.j0 (Ab.ez A.names o) n f=N:=by
    unfold Ab.j0
    grind
  have hc:A.rename true o n=(0,A.pV N):=by
    unfold Ab.rename
    rw[h.find,hf]
    grind
  rw[hc]at hB
  injection hB with h1 h2
  subst h1 h2
  have dj:∀x∈Ab.ez A.names o,x∈A.names∧x.1≠o:=fun x hx=>by
    obtain⟨h1,h2⟩:=List.mem_filter.1 hx
    grind
  have BD:((Ab.ez A.names o).map (·.1)).Nodup:=(List.filter_sublist.map _).nodup h.keys
  have AU:((Ab.ez A.names o).map (·.2)).Nodup:=(List.filter_sublist.map _).nodup h.own
  have hnf:∀x∈Ab.ez A.names o,x.2≠f:=fun x hx e=>by
    have h3:=eA h.keys (dj x hx).1
    rw[e]at h3
    exact(dj x hx).2 (h.Yz h3 hf)
  have hkN:(N.map (·.1)).Nodup:=by rw[hN,LB];exact BD
  have eR:∀x∈N,x=(n,f)∨(x∈Ab.ez A.names o∧x.1≠n):=fun x hx=>by
    grind
  have hH:HA (A.pV N):=⟨h.dN,h.on,hkN,by show(N.map (·.2)).Nodup;rw[hN];exact OO BD AU hnf,h.ids,fun x hx=>by
    rcases eR x hx with rfl|⟨hx,_⟩
    · exact h.known (o,f) (gB hf)
    · exact h.known x (dj x hx).1⟩
  refine⟨rfl,hH,funext fun m=>?_,rfl⟩
  have CR:(A.pV N).look m=if m=n then some f else if m=o then none else A.look m:=by
    have tB:∀x∈N,(A.pV N).look x.1=some x.2:=fun x hx=>eA (A:=A.pV N) hkN hx
    by_cases hm:m=n
    · rw[if_pos hm,hm]
      refine tB (n,f) ?_
      rw[hN]
      refine List.mem_map.2 ⟨(n,g),?_,if_pos rfl⟩
      exact gB (A:=A.pV (Ab.ez A.names o)) Pu
    · rw[if_neg hm]
      have hd:Ab.dy (Ab.ez A.names o) m=if m=o then none else A.look m:=rM A.names o m
      rw[← hd]
      cases hx:Ab.dy (Ab.ez A.names o) m with
      | some k =>
        refine tB (m,k) ?_
        rw[hN]
        exact List.mem_map.2 ⟨(m,k),gB (A:=A.pV (Ab.ez A.names o)) hx,if_neg hm⟩
      | none =>
        cases hy:(A.pV N).look m with
        | none=>rfl
        | some k =>
          rcases eR _ (gB hy)with he|⟨ad1,_⟩
          · grind
          · have:=eA (A:=A.pV (Ab.ez A.names o)) BD ad1
            have h2:(A.pV (Ab.ez A.names o)).look m=none:=hx
            grind
  unfold vw kX
  rw[CR]
  by_cases hm:m=n
  · rw[if_pos hm,if_pos hm];rfl
  · rw[if_neg hm,if_neg hm]
    by_cases ho:m=o
    · grind
    · rw[if_neg ho,if_neg ho];rfl
theorem ID{ls:List (List UInt8)}{n s c:Int}{y:PS}(h:HA A)(hn:isName nm=true)(hf:isName (bU nm)=true)(fu:bU nm≠nm)(Fm:vw A (bU nm)=none)(hl:A.names.length<200)(zp:(cD ls).length≤1048576)(hr:A.used+(cD ls).length≤A.room)(hR:Ge nm ls (A,n,s,c) e y) :
  e=0∧HA y.1∧vw y.1=kX (vw A) nm (some (cD ls))∧y.1.room=A.room∧y.2=(1,((ls.flatMap cQ).length:Int),((ls.flatMap cQ).length:Int)):=by
 unfold Ge gx at hR
 have iJ:(A.size (bU nm)).2=4:=by
  have Hl:A.look (bU nm)=none:=by
   unfold vw at Fm
   cases hx:A.look (bU nm)with
   | none=>rfl
   | some f=>rw[hx]at Fm;cases Fm
  unfold Ab.size
  rw[Hl]
 simp only[iJ]at hR
 rw[if_neg ai,List.nil_append]at hR
 obtain⟨e1,x1,⟨⟨f,h1f,h1a,h1b⟩,h1c⟩,c1⟩:=hR
 rw[hf]at h1a h1b
 obtain⟨g0,g1,g2,g3⟩:=h.HM Fm hl h1f (B:=x1.1) (e:=e1) (by rw[h1a,h1b])
 subst g0
 rcases c1 with⟨jS,_⟩|⟨_,e2,x2,⟨⟨h2a,h2b⟩,h2c⟩,c2⟩
 ·grind
 have hw:iy (bU nm) 0 (cD ls)=true:=by
  grind [G7,cD]
 rw[hw]at h2a h2b
 obtain⟨hu,MQ⟩:=h.q4 g1 Fm g2
 obtain⟨k0,k1,k2,k3⟩:=g1.KU (nm:=bU nm) (c:=[]) (by rw[g2,lH]) 0 (cD ls) (by rw[hu,g3];simp only[List.length_nil];omega) (B:=x2.1) (e:=e2) (by rw[h2a,h2b])
 subst k0
 rcases c2 with⟨jS,_⟩|⟨_,e3,x3,⟨⟨h3a,PO⟩,h3c⟩,c3⟩
 ·grind
 rw[hf]at h3a PO
 have xV:eU [] 0 (cD ls)=cD ls:=by unfold eU;simp
 rw[xV]at k2
 obtain⟨m0,m1,m2,m3⟩:=k1.Qu (nm:=bU nm) (c:=cD ls) (by rw[k2,lH]) (B:=x3.1) (e:=e3) (by rw[h3a,PO])
 subst m0
 rcases c3 with⟨jS,_⟩|⟨_,e4,x4,⟨⟨h4a,h4b⟩,h4c⟩,c4⟩
 ·grind
 have fI:[bU nm,nm].all isName=true:=by simp[hf,hn]
 rw[fI]at h4a h4b
 have mG:vw x3.1 (bU nm)=some (cD ls):=by rw[m2,k2,lH]
 have KG:vw x3.1 nm=vw A nm:=by rw[m2,k2,kr _ _ (fun e=>fu e.symm),g2,kr _ _ (fun e=>fu e.symm)]
 obtain⟨p0,p1,p2,p3⟩:e4=0∧HA x4.1∧vw x4.1=kX (kX (vw x3.1) (bU nm) none) nm (some (cD ls))∧x4.1.room=x3.1.room:=by
  cases hd:vw A nm with
  | none=>exact m1.GW fu mG (by rw[KG,hd]) (B:=x4.1) (e:=e4) (by rw[h4a,h4b])
  | some d=>exact m1.OP fu mG (by rw[KG,hd]) (B:=x4.1) (e:=e4) (by rw[h4a,h4b])
 subst p0
 rcases c4 with⟨jS,_⟩|⟨_,e5,x5,⟨⟨h5a,h5b⟩,h5c⟩,c5⟩
 ·grind
 obtain⟨q0,q1,q2,q3⟩:=p1.vE (B:=x5.1) (e:=e5) (by rw[h5a,h5b])
 subst q0
 rcases c5 with⟨jS,_⟩|⟨_,e6,x6,⟨h6a,h6b⟩,c6⟩
 ·grind
 subst h6a
 rcases c6 with⟨jS,_⟩|⟨_,he,hy⟩
 ·grind
 subst he
 rw[hy,h6b]
 simp only
 refine⟨trivial,q1,?_,by rw[q3,p3,m3,k3,g3],trivial⟩
 rw[q2,p2,m2,k2,g2]
 grind [kX,bU]
end Go.Proofs.YtlcoaflddajjcaaGreatDoor
namespace Go.SL
open Go
abbrev jM:=BitVec 64
def K7(x:jM):Value := .int .u64 (x.toNat:Int)
def qV(l:List jM):List Value:=l.map K7
def Yv(l:List jM):(qV l).length=l.length:=by simp[qV]
def EO{l:List jM}{i:Nat}{x:jM}(h:l[i]?=some x):(qV l)[i]?=some (K7 x):=by simp[qV,h]
def LD(l:List jM)(i:Nat)(x:jM):(qV l).set i (K7 x)=qV (l.set i x):=by simp[qV]
theorem Ah(n:Nat):IntKind.u64.wrap (n:Int)=((n%18446744073709551616:Nat):Int):=by
 simp[IntKind.wrap,IntKind.bits,IntKind.signed]
theorem mD(p:jM):BitVec.ofInt IntKind.u64.bits ((p.toNat:Nat):Int)=p:=by
 apply BitVec.eq_of_toNat_eq
 have h:IntKind.u64.bits=64:=rfl
 grind
section
variable{P:Program}{U:Tr}[hU:eT P U]{f:FuncId}{n:Nat}{R:Ending→World→Prop}{G:ct}{k:List Item}{L:eH}{H H':List HP}{S:World→Prop}{all:Array Oper}{rest:Pl}{ty:TypeId}{pos:String}{af:Array Edge}{gd:Option (Nat × Bool)}{m:Bool}{d:Tmp}
theorem tS{t yt:TypeId}{x y:Operand}{p q:jM}(hd:Nat.blt d n=true)(hx:ev L x=some (.int .u64 (p.toNat:Int)))(hy:ev L y=some (.int .u64 (q.toNat:Int)))(h:J P f n R G S all rest k ((d,.int .u64 ((p+q).toNat:Int))::L) H):J P f n R G S all (.cons m true ⟨some d,.binOp .add t x y yt,ty,pos,af,gd⟩ rest) k L H:=by
 refine Gr hd hx hy ?_
 have e:IntKind.u64.wrap ((p.toNat:Int)+(q.toNat:Int))=((p+q).toNat:Int):=by
  grind [Ah]
 rw[e];exact h
theorem lD(p:jM):IntKind.u64.wrap (p.toNat:Int)=(p.toNat:Int):=by
 rw[Ah];have:=p.isLt;congr 1;omega
def pr{t yt:TypeId}{x y:Operand}{p:jM}{j':IntKind}{q:Int}(s:Nat)(hd:Nat.blt d n=true)(hx:ev L x=some (.int .u64 (p.toNat:Int)))(hy:ev L y=some (.int j' q))(hq:q=(s:Int))(hs:s≤64)(h:J P f n R G S all rest k ((d,.int .u64 ((p >>> s).toNat:Int))::L) H):J P f n R G S all (.cons m true ⟨some d,.binOp .shr t x y yt,ty,pos,af,gd⟩ rest) k L H:=by
 subst hq
 refine iI hd hx hy ai ?_
 have e:(p.toNat:Int)/2 ^ (min ((s:Int).toNat) IntKind.u64.bits)=((p >>> s).toNat:Int):=by
  rw[BitVec.toNat_ushiftRight,Nat.shiftRight_eq_div_pow,Int.toNat_natCast,show min s IntKind.u64.bits=s from by show min s 64=s;omega]
  simp
 rw[e];exact h
def ZY{t yt:TypeId}{x y:Operand}{p:jM}{j':IntKind}{q:Int}(s:Nat)(hd:Nat.blt d n=true)(hx:ev L x=some (.int .u64 (p.toNat:Int)))(hy:ev L y=some (.int j' q))(hq:q=(s:Int))(hs:s≤64)(h:J P f n R G S all rest k ((d,.int .u64 ((p <<< s).toNat:Int))::L) H):J P f n R G S all (.cons m true ⟨some d,.binOp .shl t x y yt,ty,pos,af,gd⟩ rest) k L H:=by
 subst hq
 refine pt hd hx hy ai ?_
 have e:IntKind.u64.wrap ((p.toNat:Int)*2 ^ (min ((s:Int).toNat) IntKind.u64.bits))=((p <<< s).toNat:Int):=by
  rw[BitVec.toNat_shiftLeft,Nat.shiftLeft_eq,Int.toNat_natCast,show min s IntKind.u64.bits=s from by show min s 64=s;omega]
  rw[show(p.toNat:Int)*2 ^ s=((p.toNat*2 ^ s:Nat):Int)from by simp,Ah]
 rw[e];exact h
end
end Go.SL
namespace Go.Proofs.YtlcoaflddajjcaaGreatDoor
open Go Go.SL
def ke(n i:Nat):Option Nat:=if i%2=1 then some (i-1)else if i+1<n then some (i+1)else none
def oZ:Nat→Nat→Nat→Nat
 | 0,_,_=>0
 | f+1,n,i=>if n≤1 then 0 else(if(ke n i).isSome then 1 else 0)+oZ f ((n+1)/2) (i/2)
def je(n i:Int):Nat:=if 1≤n∧n≤1024∧0≤i∧i<n then oZ n.toNat n.toNat i.toNat else 0
def xh:Nat→Nat→Nat→Dg→List Dg→Dg
 | 0,_,_,x,_=>x
 | f+1,n,i,x,p=>if n≤1 then x else match ke n i with
  | none=>xh f ((n+1)/2) (i/2) x p
  | some s=>xh f ((n+1)/2) (i/2) (if s<i then iR (p.headD Dg.zero) x else iR x (p.headD Dg.zero)) p.tail
def nH(root:Dg)(n i:Int)(x:Dg)(p:List Dg):Bool:=decide ((1≤n∧n≤1024∧0≤i∧i<n)∧p.length=je n i∧xh n.toNat n.toNat i.toNat x p=root)
def l6(x:Bl)(i:Int)(b:List UInt8)(p:List Dg):Bool:=match rp x i with
 | none=>false
 | some (_,m)=>decide ((b.length:Int)=m) && nH x.root (dM x) i (dq b) p
def FO(f n i:Nat)(hn:n≤1):oZ f n i=0:=by
 cases f with
 | zero=>rfl
 | succ f=>unfold oZ;rw[if_pos hn]
theorem zH:∀(k f n i:Nat),n≤2 ^ k→oZ f n i≤k
 | 0,f,n,i,h=>by rw[FO f n i (by simpa using h)];exact Nat.le_refl _
 | k+1,0,n,i,h=>Nat.zero_le _
 | k+1,f+1,n,i,h=>by
  unfold oZ
  split
  ·grind
  ·have:=zH k f ((n+1)/2) (i/2) ai
   grind
theorem tH(n i:Int):je n i≤10:=by
 unfold je
 split
 ·exact zH 10 _ _ _ ai
 grind
theorem F7{κ:Type}[DecidableEq κ](es:List (κ × Value))(k d:κ)(v:Value):cU (jG es k v) d=if d=k then some v else cU es d:=by
 unfold jG
 by_cases hk:k∈es.map (·.1)
 ·rw[if_pos hk]
  unfold cU
  rw[List.find?_map]
  have hf:((fun x:κ × Value=>decide (x.1=d)) ∘ fun x:κ × Value=>if x.1=k then(k,v)else x)=fun x=>decide (x.1=d):=by
   grind
  rw[hf]
  by_cases hd:d=k
  ·subst hd
   rw[if_pos rfl]
   obtain⟨y,hy,hyd⟩:=List.mem_map.1 hk
   cases hx:es.find? (fun x=>decide (x.1=d))with
   | none=>have:=List.find?_eq_none.1 hx y hy;simp[hyd]at this
   | some x =>
    grind
  ·rw[if_neg hd]
   cases hx:es.find? (fun x=>decide (x.1=d))with
   | none=>rfl
   | some x =>
    grind
 grind [cU]
def F3(k:Nat):jM:=(1#64) <<< k
def rU(ws:List jM)(n:Nat)(i:Int):Bool:=decide (0≤i∧i<n) && decide (((ws.getD (i.toNat/64) 0#64) >>> (i.toNat%64)) &&& 1#64=1#64)
def nk(ws:List jM)(i:Nat)(one:Bool):List jM:=ws.set (i/64) (if one then ws.getD (i/64) 0#64 ||| F3 (i%64)else ws.getD (i/64) 0#64 &&& ~~~(F3 (i%64)))
def mA(ws:List jM)(i:Nat)(one:Bool):(nk ws i one).length=ws.length:=by simp[nk]
theorem M7{ws:List jM}{n:Nat}{i:Int}(h:i<0∨(n:Int)≤i):rU ws n i=false:=by
 grind [rU]
def jt(sb n:Nat)(wv:Value)(ws:List jM):List HP:=[ae sb (cl [.int .i64 (n:Int),wv] 376),aB 46 1 wv ws.length (qV ws)]
structure Tk where
 yb:Nat
 sb:Nat
 mb:Nat
 x:Bl
 n:Nat
 ws:List jM
 pf:Int→Option (List Dg)
def HU(z:Value × List (Int × Value) × fJ)(y:Tk):Prop:=∀k,match cU z.2.1 k with
 | none=>y.pf k=none
 | some v=>∃l,y.pf k=some l∧BI z.2.2 32 v l.length (l.flatMap dC)
def ri(y:Tk):List Value:=ck y.x++[ptr y.sb,.map (some y.mb)]
def uW(y:Tk)(z:Value × List (Int × Value) × fJ):List HP:=[ae y.yb (cl (ri y) 163),ae y.sb (cl [.int .i64 (y.n:Int),z.1] 376),aB 46 1 z.1 y.ws.length (qV y.ws),aI (Value.int .i64) y.mb z.2.1,a7 32 z.2.2]
def qa(y:Tk):HP:=fun h=>∃z:Value × List (Int × Value) × fJ,HU z y∧Sep (uW y z) h
def hD(y:Tk):∀h,qa y h→∃z:Value × List (Int × Value) × fJ,HU z y∧Sep (uW y z) h:=fun h hs=>hs
def jY{y:Tk}{z:Value × List (Int × Value) × fJ}(hR:HU z y)(H:List HP):ao (uW y z++H) (qa y::H) :=
 ao.fold (B:=uW y z) fun h hp=>⟨h,sub.refl h,z,hR,hp⟩
theorem HU.put{z:Value × List (Int × Value) × fJ}{y:Tk}(h:HU z y)(k:Int)(v wv:Value)(l:List Dg)(M:fJ)(hM:∀a∈z.2.2,a∈M)(hv:BI M 32 v l.length (l.flatMap dC))(y':Tk)(hy:y'.pf=fun j=>if j=k then some l else y.pf j):HU (wv,jG z.2.1 k v,M) y':=fun j=>by
 rw[hy]
 simp only
 rw[F7]
 by_cases hj:j=k
 ·grind
 ·rw[if_neg hj,if_neg hj]
  have:=h j
  cases hx:cU z.2.1 j with
  | none=>rw[hx]at this;exact this
  | some u =>
   rw[hx]at this
   obtain⟨l',h1,h2⟩:=this
   exact⟨l',h1,h2.mono hM⟩
def bC(ts:List Tk):HP:=Sep (ts.map qa)
def GK(H:List HP):ao H (bC []::H):=ao.lj H
def Aj(a b:List Tk)(y:Tk)(H:List HP):ao (bC (a++y::b)::H) (qa y::bC (a++b)::H):=by
 unfold bC
 rw[List.map_append,List.map_cons,List.map_append]
 refine(ao.bY _ _).trans ((ao.perm (H':=qa y::((a.map qa++b.map qa)++H)) ?_).trans (ao.cons _ (ao.bK _ _)))
 simp_all
def sT(a b:List Tk)(y:Tk)(H:List HP):ao (qa y::bC (a++b)::H) (bC (a++y::b)::H):=by
 unfold bC
 rw[List.map_append,List.map_append,List.map_cons]
 refine(ao.cons _ (ao.bY _ _)).trans ((ao.perm (H':=(a.map qa++qa y::b.map qa)++H) ?_).trans (ao.bK _ _))
 rw[List.append_assoc,List.append_assoc,List.cons_append]
 exact List.perm_middle.symm
def Ek{ts:List Tk}{i:Nat}{y:Tk}(h:ts[i]?=some y):ts=ts.take i++y::ts.drop (i+1):=by
 obtain⟨hi,rfl⟩:=List.getElem?_eq_some_iff.1 h
 simp_all
def rf{ts:List Tk}{i:Nat}{y:Tk}(h:ts[i]?=some y)(H:List HP):ao (bC ts::H) (qa y::bC (ts.take i++ts.drop (i+1))::H):=by
 have:=Aj (ts.take i) (ts.drop (i+1)) y H
 rwa[← Ek h]at this
def Oz{ts:List Tk}{i:Nat}{y:Tk}(h:ts[i]?=some y)(y':Tk)(H:List HP):ao (qa y'::bC (ts.take i++ts.drop (i+1))::H) (bC (ts.set i y')::H):=by
 have hi:=(List.getElem?_eq_some_iff.1 h).1
 rw[List.set_eq_take_append_cons_drop,if_pos hi]
 exact sT (ts.take i) (ts.drop (i+1)) y' H
def q9{ts:List Tk}{i:Nat}{y:Tk}(h:ts[i]?=some y)(H:List HP):ao (qa y::bC (ts.take i++ts.drop (i+1))::H) (bC ts::H):=by
 have:=sT (ts.take i) (ts.drop (i+1)) y H
 rwa[← Ek h]at this
def df(y:Tk):Value:=ptr y.yb
def fq(tb bs jb:Nat)(v:Value)(ts:List Tk)(br:Bool):List HP:=[ae tb (cl [ptr bs,ptr jb,v,.bool br] 156),aB 158 1 v ts.length (ts.map df),bC ts]
def rh{ts:List Tk}{i:Nat}{y:Tk}(h:ts[i]?=some y):(ts.map df)[i]?=some (ptr y.yb):=by rw[List.getElem?_map,h];rfl
def gm:ByteArray:=strOf [112,105,101,99,101,115]
def lP(k:List UInt8)(d:Dg):eS k d≠gm:=fun h=>by
 have h1:=congrArg (fun s:ByteArray=>s.data.toList.length) h
 simp only[eS,gm,strOf,List.length_append,mw]at h1
 simp at h1
def Fe{A:Ab}(h:HA A)(n:ByteArray):n∈eW A↔(vw A n).isSome=true:=by
 rw[(um A).mem_iff]
 exact mem_keys h n
def wE:isName gm=true:=by decide +kernel
def uy:isName (bU gm)=true:=by decide +kernel
def AF:bU gm≠gm:=by decide +kernel
abbrev SJ:=ml × JN
def Ap(R:ml→Nat→ml→Prop)(x:SJ)(e:Nat)(y:SJ):Prop:=R x.1 e y.1∧y.2=x.2
def vQ(b:List UInt8)(x:SJ)(e:Nat)(y:SJ):Prop:=e=(eP gm x.1.A x.2 b).1∧y=(⟨(eP gm x.1.A x.2 b).2.1,x.1.cq,x.1.brk⟩,(eP gm x.1.A x.2 b).2.2)
def BY(x:SJ)(e:Nat)(y:SJ):Prop:=∃A' x',p4 gm x.1.A x.2 e A' x'∧y=(⟨A',x.1.cq,x.1.brk⟩,x')
def Mb(b:List UInt8):List (SJ→Nat→SJ→Prop):=[vQ b,BY]
theorem Bd(A:Ab)(nm:ByteArray)(x:JN)(b:List UInt8):(eP nm A x b).2.1.aV.length≤A.aV.length+1∧(eP nm A x b).2.1.writes.length≤A.writes.length+1:=by
 have hw:=nF A (iy nm (32+x.s) (cQ b)) nm (32+x.s).toNat (cQ b)
 obtain⟨h1,h2⟩:=hw
 grind [eP]
attribute [local irreducible] J K au Ends ae aB aI bB aW aS a7 aX bF
theorem Jy{ws:List jM}{n j:Nat}{w:jM}(hj:j<n)(hw:ws[j/64]?=some w):decide ((((w >>> (j%64)) &&& 1#64).toNat:Int)=1)=rU ws n (j:Int):=by
 unfold rU
 rw[decide_eq_true (show 0≤(j:Int)∧(j:Int)<n by omega),Bool.true_and,Int.toNat_natCast,List.getD_eq_getElem?_getD,hw,Option.getD_some,decide_eq_decide]
 constructor
 ·intro h
  apply BitVec.eq_of_toNat_eq
  grind
 grind
abbrev orW(p q:jM):jM:=p ||| q
theorem acQ(p:jM):IntKind.u64.wrap ((BitVec.ofInt IntKind.u64.bits (p.toNat:Int) &&& BitVec.ofInt IntKind.u64.bits 1).toNat:Int)=((p &&& 1#64).toNat:Int):=by
 grind [mD,lD]
def ade(p q:jM):IntKind.u64.wrap ((BitVec.ofInt IntKind.u64.bits (p.toNat:Int) ||| BitVec.ofInt IntKind.u64.bits (q.toNat:Int)).toNat:Int)=((p ||| q).toNat:Int):=by
 rw[mD,mD]
 exact lD (p ||| q)
def Nx(p q:jM):IntKind.u64.wrap ((BitVec.ofInt IntKind.u64.bits (p.toNat:Int) &&& ~~~ BitVec.ofInt IntKind.u64.bits (q.toNat:Int)).toNat:Int)=((p &&& ~~~q).toNat:Int):=by
 rw[mD,mD]
 exact lD (p &&& ~~~q)
def qNe{ws:List jM}{i:Nat}(h:i<ws.length):qV ws≠[]:=fun e=>by have:=congrArg List.length e;rw[Yv]at this;rw[this]at h;simp at h
def sE(sb n:Nat)(wv:Value):au Tryz.prog 141 [ptr sb] [ae sb (cl [.int .i64 (n:Int),wv] 376)] (fun r H=>r = .int .i64 (n:Int)∧H=[ae sb (cl [.int .i64 (n:Int),wv] 376)]):=by
 refine au.ak Tryz.func141 Tryz.ntmps141 fun G F R hE=>?_
 refine go ?_
 refine ad hE Tryz.func141 zr zr ⟨rfl,rfl⟩
def Ob(sb n:Nat)(wv:Value)(ws:List jM)(hn:n≤65536)(hw:n≤ws.length*64)(i:Int):au Tryz.prog 142 [ptr sb,.int .i64 i] (jt sb n wv ws) (fun r H=>r = .bool (rU ws n i)∧H=jt sb n wv ws):=by
 unfold jt
 by_cases hi:0≤i∧i<(n:Int)
 case neg =>
  rw[M7 ai]
  refine au.ak Tryz.func142 Tryz.ntmps142 fun G F R hE=>?_
  by_cases h0:0≤i
  ·refine go ?_
   refine aG 7 ((.bool true)) rfl ((congrArg Value.bool (decide_eq_true ai))) (go ?_)
   refine aG 15 ((.bool false)) rfl ((congrArg Value.bool (decide_eq_false ai))) (go ?_)
   refine ad hE Tryz.func142 zr zr ⟨rfl,rfl⟩
  ·refine go ?_
   refine aG 7 ((.bool false)) rfl ((congrArg Value.bool (decide_eq_false ai))) (go ?_)
   refine ad hE Tryz.func142 zr zr ⟨rfl,rfl⟩
 obtain⟨j,rfl⟩:∃j:Nat,i=j:=⟨i.toNat,ai⟩
 have KK:j/64<ws.length:=by omega
 obtain⟨w,hww⟩:∃w,ws[j/64]?=some w:=⟨ws[j/64],by simp[KK]⟩
 have dt:=EO hww
 refine au.ak Tryz.func142 Tryz.ntmps142 fun G F R hE=>?_
 refine db 1 rfl ?_
 rintro a c rfl
 refine eh 1 rfl ?_
 intro cW
 obtain⟨b,o,eY,dL⟩:=cW.some (qNe KK)
 simp only[Value.slice.injEq]at dL
 obtain⟨rfl,_,rfl⟩:=dL
 refine go ?_
 refine aG 7 ((.bool true)) rfl ((congrArg Value.bool (decide_eq_true ai))) (go ?_)
 refine aG 15 ((.bool true)) rfl ((congrArg Value.bool (decide_eq_true ai))) (go ?_)
 refine mT zr zr zr ai ai (by simp only[fz];omega) ?_
 refine aG 21 ((.int .i64 ((j/64:Nat):Int))) rfl ((congrArg (Value.int .i64) ai)) (go ?_)
 refine bp (j/64) zr zr zr zr zr zr zr zr KK (go ?_)
 refine aP ?_
 refine aQ 1 (j/64) zr zr zr cW rfl dt zr zr (go ?_)
 refine lT zr zr zr ai ai ?_
 refine aG 25 ((.int .i64 ((j%64:Nat):Int))) rfl ((congrArg (Value.int .i64) ai)) (go ?_)
 refine pr (p:=w) (j%64) zr zr zr zr ai (go ?_)
 ((refine bq 4 ((.bool (rU ws n (j:Int)))) rfl ((congrArg Value.bool (by rw[acQ];exact Jy ai hww))) ?_))
 refine ad hE Tryz.func142 zr zr ⟨rfl,rfl⟩
def Oa(n:Nat)(hn:n≤65536):au Tryz.prog 249 [.int .i64 (n:Int)] [] (fun r H=>∃sb wv,r = .tuple #[ptr sb,.int .i64 0]∧H=jt sb n wv (List.replicate ((n+63)/64) 0#64)):=by
 refine au.ak Tryz.func249 Tryz.ntmps249 fun G F R hE=>?_
 refine go ?_
 refine bq 6 ((.bool false)) rfl ((congrArg Value.bool (decide_eq_false ai))) (go ?_)
 refine bq 9 ((.bool false)) rfl ((congrArg Value.bool (decide_eq_false ai))) (go ?_)
 refine mT zr zr zr ai ai (by simp only[fz];omega) ?_
 refine aG 14 ((.int .i64 (((n+63)/64:Nat):Int))) rfl ((congrArg (Value.int .i64) ai)) (go ?_)
 refine il (p:=(n+63)/64) (q:=(n+63)/64) zr zr zr zr zr zr zr zr zr (Nat.le_refl _) ai (by show 8*_≤_;omega) bh ?_
 intro row
 refine go ?_
 refine bu zr zr bh ?_
 intro sb
 refine go ?_
 refine al (H':=jt sb n (.slice (some ⟨row,0,none⟩) ((n+63)/64) ((n+63)/64)) (List.replicate ((n+63)/64) 0#64)++F) ?_ ?_
 ·have hq:qV (List.replicate ((n+63)/64) 0#64)=List.replicate ((n+63)/64) (.int .u64 0):=by simp[qV,K7]
  unfold jt
  rw[hq,List.length_replicate]
  refine ao.trans (H2:=ae row (cl (List.replicate ((n+63)/64) (.int .u64 0)) 46)::ae sb (cl [.int .i64 (n:Int),.slice (some ⟨row,0,none⟩) ((n+63)/64) ((n+63)/64)] 376)::F) ag ?_
  refine ao.trans (H2:=ae row (cl (List.replicate ((n+63)/64) (.int .u64 0)++[]) 46)::ae sb (cl [.int .i64 (n:Int),.slice (some ⟨row,0,none⟩) ((n+63)/64) ((n+63)/64)] 376)::F) (by rw[List.append_nil];exact ao.refl _) ?_
  refine(ef 46 1 row ((n+63)/64) ((n+63)/64) (List.replicate ((n+63)/64) (.int .u64 0)) [] _ (by simp) (Nat.le_refl _) (by simp)).trans ?_
  exact ao.perm (List.Perm.swap ..)
 ·refine ad hE Tryz.func249 zr zr ⟨_,_,rfl,rfl⟩
def OT(ws:List jM)(i:Nat)(w:jM)(hw:ws[i/64]?=some w):(qV ws).set (i/64) (.int .u64 ((orW w (F3 (i%64))).toNat:Int))=qV (nk ws i true):=by
 unfold nk
 rw[if_pos rfl,List.getD_eq_getElem?_getD,hw,Option.getD_some]
 exact LD ws (i/64) _
def LF(ws:List jM)(i:Nat)(w:jM)(hw:ws[i/64]?=some w):(qV ws).set (i/64) (.int .u64 ((w &&& ~~~(F3 (i%64))).toNat:Int))=qV (nk ws i false):=by
 unfold nk
 rw[if_neg (by simp),List.getD_eq_getElem?_getD,hw,Option.getD_some]
 exact LD ws (i/64) _
def KB(sb n:Nat)(wv:Value)(ws:List jM)(hn:n≤65536)(hw:n≤ws.length*64)(i:Nat)(hi:i<n)(one:Bool):au Tryz.prog 320 [ptr sb,.int .i64 (i:Int),.int .i64 ((i:Int)+1),.bool one] (jt sb n wv ws) (fun r H=>r = .int .i64 0∧H=jt sb n wv (nk ws i one)):=by
 have jL:i/64<ws.length:=by omega
 obtain⟨w,hww⟩:∃w,ws[i/64]?=some w:=⟨ws[i/64],by simp[jL]⟩
 have dt:=EO hww
 unfold jt
 rw[mA]
 refine au.ak Tryz.func320 Tryz.ntmps320 fun G F R hE=>?_
 refine db 1 rfl ?_
 rintro a c rfl
 refine eh 1 rfl ?_
 intro cW
 obtain⟨b,o,eY,dL⟩:=cW.some (qNe jL)
 simp only[Value.slice.injEq]at dL
 obtain⟨rfl,_,rfl⟩:=dL
 clear cW
 refine go ?_
 refine aG 14 ((.bool false)) rfl ((congrArg Value.bool (decide_eq_false ai))) (go ?_)
 refine aG 19 ((.bool false)) rfl ((congrArg Value.bool (decide_eq_false ai))) (go ?_)
 refine bq 26 ((.bool false)) rfl ((congrArg Value.bool (decide_eq_false ai))) (go ?_)
 refine bj (fun g:Nat=>g≤1) (fun g=>1-g) (fun g=>[(0,ptr sb),(1,.int .i64 ((i:Int)+(g:Int))),(2,.int .i64 ((i:Int)+1)),(3,.bool one)])
  (fun g=>ae sb (cl [.int .i64 (n:Int),.slice (some ⟨b,o,none⟩) ws.length c] 376)::aB 46 1 (.slice (some ⟨b,o,none⟩) ws.length c) ws.length (qV (if g=0 then ws else nk ws i one))::F) 0 ai rfl bS ag ?_
 intro g hg ih
 rcases(by omega:g=0∨g=1)with rfl|rfl
 ·rw[if_pos rfl]
  refine eh 1 rfl ?_
  intro cW
  refine go ?_
  refine bq 29 ((.bool true)) rfl ((congrArg Value.bool (decide_eq_true ai))) (go ?_)
  refine mT zr zr zr ai ai (by simp only[fz];omega) ?_
  refine aG 31 ((.int .i64 ((i/64:Nat):Int))) rfl ((congrArg (Value.int .i64) ai)) (go ?_)
  refine eN zr zr zr (by simp only[fz];omega) ?_
  refine go ?_
  refine aG 40 ((.int .i64 63)) rfl ((congrArg (Value.int .i64) ai)) ?_
  refine pr (p:=18446744073709551615#64) 63 rfl (congrArg (fun z:Int=>some (Value.int .u64 z)) (by decide:(18446744073709551615:Int)=((18446744073709551615#64).toNat:Int))) zr zr ai ?_
  refine aG 41 ((.int .u64 ((1#64).toNat:Int))) rfl ((congrArg (fun w:jM=>Value.int .u64 (w.toNat:Int)) (by decide))) ?_
  refine go ?_
  refine lT zr zr zr ai ai ?_
  refine aG 43 ((.int .i64 ((i%64:Nat):Int))) rfl ((congrArg (Value.int .i64) ai)) ?_
  refine ZY (p:=1#64) (i%64) zr zr zr zr ai ?_
  rw[show 1#64 <<< (i%64)=F3 (i%64)from rfl]
  cases one with
  | true =>
   refine go ?_
   refine bp (i/64) zr zr zr zr zr zr zr zr jL ?_
   refine aP ?_
   refine aQ 1 (i/64) zr zr zr cW rfl dt zr zr (go ?_)
   refine aG 54 ((.int .u64 ((orW w (F3 (i%64))).toNat:Int))) rfl ((congrArg (Value.int .u64) (ade w _))) ?_
   refine bp (i/64) zr zr zr zr zr zr zr zr jL ?_
   refine aY ?_
   refine gO (q:=i/64) 1 e8 zr zr zr zr zr zr zr jL rfl ?_
   rw[OT ws i w hww]
   refine go ?_
   refine bq 1 ((.int .i64 ((i:Int)+((1:Nat):Int)))) rfl ((congrArg (Value.int .i64) ai)) ?_
   refine aM ih 1 rfl ai ai bS ag
  | false =>
   refine go ?_
   refine bp (i/64) zr zr zr zr zr zr zr zr jL ?_
   refine aP ?_
   refine aQ 1 (i/64) zr zr zr cW rfl dt zr zr (go ?_)
   refine aG 64 ((.int .u64 ((w &&& ~~~(F3 (i%64))).toNat:Int))) rfl ((congrArg (Value.int .u64) (Nx w _))) ?_
   refine bp (i/64) zr zr zr zr zr zr zr zr jL ?_
   refine aY ?_
   refine gO (q:=i/64) 1 e8 zr zr zr zr zr zr zr jL rfl ?_
   rw[LF ws i w hww]
   refine go ?_
   refine bq 1 ((.int .i64 ((i:Int)+((1:Nat):Int)))) rfl ((congrArg (Value.int .i64) ai)) ?_
   refine aM ih 1 rfl ai ai bS ag
 ·rw[if_neg ai]
  refine go ?_
  refine bq 29 ((.bool false)) rfl ((congrArg Value.bool (decide_eq_false ai))) (go ?_)
  refine ad hE Tryz.func320 zr zr ⟨rfl,rfl⟩
def D7(sb n:Nat)(wv:Value)(ws:List jM)(hn:n≤65536)(hw:n≤ws.length*64)(i:Nat)(hi:i<n)(one:Bool):au Tryz.prog 259 [ptr sb,.int .i64 (i:Int),.bool one] (jt sb n wv ws) (fun r H=>r = .int .i64 0∧H=jt sb n wv (nk ws i one)):=by
 have hf:=KB sb n wv ws hn hw i hi one
 unfold jt at hf ⊢
 refine au.ak Tryz.func259 Tryz.ntmps259 fun G F R hE=>?_
 refine go ?_
 refine bq 9 ((.bool false)) rfl ((congrArg Value.bool (decide_eq_false ai))) (go ?_)
 refine bq 16 ((.bool false)) rfl ((congrArg Value.bool (decide_eq_false ai))) (go ?_)
 refine aw hf ?_
 refine go ?_
 refine ad hE Tryz.func259 zr zr ⟨rfl,rfl⟩
attribute [local irreducible] aC
def xu(e:Nat):Bool:=decide (e≠0∧e≠1∧e≠5∧e≠8∧e≠11)
def sF(tb bs jb:Nat)(tv:Value)(br:Bool):HP:=ae tb (cl [ptr bs,ptr jb,tv,.bool br] 156)
theorem Ip{σ:Type}(I:σ→HP)(tb bs jb:Nat)(tv:Value)(V:HP)(v:Value)(jW:List Value)(hv:Vw V v jW.length jW)(hn:jW.length≤1000000000)(ss:List (σ→Nat→σ→Prop))(hlen:ss.length=jW.length)(Q:Nat→σ→Prop)(dK:∀(i:Nat) (fv:Value) (s:σ→Nat→σ→Prop),jW[i]?=some fv→ss[i]?=some s→∃g fi cap,fv = .func (.func g) fi cap∧∀x,Q i x→au Tryz.prog g (fi.toList++cap.toList) [sF tb bs jb tv false,I x] (fun r H=>∃(e:Nat) (x':σ),r = .int .i64 (e:Int)∧H=[sF tb bs jb tv false,I x']∧s x e x'∧(e=0→Q (i+1) x')))(x0:σ)(hQ:Q 0 x0) :
  au Tryz.prog 281 [ptr tb,v] [V,sF tb bs jb tv false,I x0] (fun r H=>∃(e:Nat) (x':σ),r = .int .i64 (e:Int)∧H=[V,sF tb bs jb tv (xu e),I x']∧mh ss x0 e x'):=by
 unfold sF at dK ⊢
 obtain⟨a,c,rfl⟩:=hv.shape
 refine au.ak Tryz.func281 Tryz.ntmps281 fun G F R hE=>?_
 refine go ?_
 refine bj (fun y:Nat × σ=>y.1≤jW.length∧Q y.1 y.2∧∀e x',mh (ss.drop y.1) y.2 e x'→mh ss x0 e x') (fun y=>jW.length-y.1)
  (fun y=>[(0,ptr tb),(8,.slice a jW.length c),(9,.int .i64 (jW.length:Int)),(10,.int .i64 (y.1:Int))])
  (fun y=>V::ae tb (cl [ptr bs,ptr jb,tv,.bool false] 156)::I y.2::F) (0,x0) ⟨Nat.zero_le _,hQ,fun _ _ h=>h⟩ rfl bS ag ?_
 rintro⟨i,x⟩⟨hi,hq,hr⟩ ih
 simp only at hi hq hr
 dsimp only
 refine go ?_
 refine aq zr zr ?_ ?_
 ·intro cL
  have jL:i<jW.length:=by omega
  obtain⟨fv,yp⟩:∃fv,jW[i]?=some fv:=⟨jW[i],List.getElem?_eq_getElem jL⟩
  obtain⟨s,hs⟩:∃s,ss[i]?=some s:=⟨ss[i],List.getElem?_eq_getElem ai⟩
  obtain⟨g,fi,cap,rfl,hc⟩:=dK i fv s yp hs
  have iX:ss.drop i=s::ss.drop (i+1):=by
   rw[List.drop_eq_getElem_cons ai]
   grind
  obtain⟨b0,o0,c0,sN⟩:=hv.some (by intro h;rw[h]at jL;simp at jL)
  simp only[Value.slice.injEq]at sN
  obtain⟨rfl,-,rfl⟩:=sN
  refine go ?_
  refine bp i zr zr zr zr zr zr zr zr jL ?_
  refine aQ 0 i zr zr zr hv rfl yp zr zr (go ?_)
  refine ji zr zr zr (by simp) (hc x hq) ag ?_ jk
  rintro _ _⟨e,x',rfl,rfl,QK,Ol⟩
  by_cases sN:e=0
  ·subst sN
   refine go ?_
   refine aM ih (i+1,x') rfl (⟨by simp only;omega,Ol rfl,fun e2 x2 h2=>hr e2 x2 (by rw[iX];exact⟨0,x',QK,.inr ⟨rfl,h2⟩⟩)⟩) (by simp only;omega) bS ag
  have me:mh ss x0 e x':=hr e x' (by rw[iX];exact⟨e,x',QK,.inl ⟨sN,rfl,rfl⟩⟩)
  clear ih
  by_cases abO:e=1∨e=5∨e=11∨e=8
  ·have hb:xu e=false:=decide_eq_false ai
   rcases abO with rfl|rfl|rfl|rfl
   all_goals(
    refine go ?_
    ((refine ad hE Tryz.func281 zr zr ⟨_,x',rfl,rfl,me⟩)))
  ·have hb:xu e=true:=decide_eq_true ai
   refine go ?_
   refine aq zr zr ?_ ?_
   ·grind
   intro _
   refine go ?_
   refine aq zr zr ?_ ?_
   ·grind
   intro _
   refine go ?_
   refine aq zr zr ?_ ?_
   ·grind
   intro _
   refine go ?_
   refine aq zr zr ?_ ?_
   ·grind
   intro _
   refine go ?_
   refine aq zr zr ?_ ?_
   ·grind
   intro _
   refine go ?_
   refine al (H':=V::ae tb (cl [ptr bs,ptr jb,tv,.bool true] 156)::I x'::F) ag ?_
   rw[← hb]
   refine ad hE Tryz.func281 zr zr ⟨e,x',rfl,rfl,me⟩
 ·intro ep
  have dA:i=jW.length:=by omega
  subst dA
  clear ih
  have h0:mh ss x0 0 x:=hr 0 x (by rw[List.drop_eq_nil_of_le ai];exact⟨rfl,rfl⟩)
  refine go ?_
  refine ad hE Tryz.func281 zr zr ⟨0,x,rfl,rfl,h0⟩
def OA{ts:List Tk}{i:Nat}(h:i<ts.length):ts.map df≠[]:=fun e=>by have:=congrArg List.length e;simp at this;rw[this]at h;simp at h
def qk(ts:List Tk)(x:Bl):Option Tk:=ts.find? fun y=>decide (y.x=x)
def tkV(o:Option Tk):Value:=match o with
 | none => .pointer none
 | some y=>ptr y.yb
def sA(A X:HP)(v:Value)(l:List Tk)(hv:Vw A v l.length (l.map df))(hlen:l.length≤1000000)(g:FuncId)(cap:List Value)(p:Tk→Bool)(hf:∀x∈l,au Tryz.prog g (ptr x.yb::cap) [X] (fun v H=>v = .bool (p x)∧H=[X])) :
  au Tryz.prog 342 [v,.func (.func g) #[] cap.toArray] [A,X] (fun r H=>r = .int .i64 (gM p l)∧H=[A,X]):=by
 obtain⟨a,c0,rfl⟩:=hv.shape
 refine au.enter Tryz.func342 ah rfl Tryz.ntmps342 zr zr ?_
 intro G F R hR
 refine go ?_
 refine bj (fun i:Nat=>i≤l.length∧∀y∈l.take i,p y=false) (fun i=>l.length-i) (fun i=>[(0,.slice a l.length c0),(1,.func (.func g) #[] cap.toArray),(7,.int .i64 l.length),(8,.int .i64 i)]) (fun _=>[A,X]++F) 0 ⟨by simp,by simp⟩ rfl bS (ao.refl _) ?_
 rintro i⟨hi,hb⟩ ih
 refine go ?_
 refine aq zr zr ?_ ?_
 ·intro cL
  refine go ?_
  have dA:i<l.length:=by omega
  obtain⟨x,hx⟩:∃x,l[i]?=some x:=⟨l[i],by simp[dA]⟩
  obtain⟨b,o,eY,dL⟩:=hv.some (OA dA)
  simp only[Value.slice.injEq]at dL
  obtain⟨rfl,_,rfl⟩:=dL
  refine bp i zr zr zr zr zr zr zr zr dA ?_
  refine aP ?_
  refine aQ 0 i zr zr zr hv rfl (rh hx) zr zr ?_
  refine cg [1] zr zr zr zr (hf x (List.mem_of_getElem? hx)) rfl jk ?_
  rintro _ _⟨rfl,rfl⟩
  refine go ?_
  refine dY zr zr ?_ ?_
  ·intro hp
   refine go ?_
   refine aK hR Tryz.func342 rfl _ rfl ⟨by rw[gL hx hp hb];rfl,rfl⟩ (ao.fin [1,0] 0 zr zr)
  ·intro hp
   refine go ?_
   refine aM ih (i+1) rfl ⟨ai,kC hb hx hp⟩ ai bS (ao.pick [1,0] rfl)
 ·intro ep
  refine go ?_
  have:i=l.length:=by omega
  subst this
  refine aK hR Tryz.func342 rfl _ rfl ⟨by rw[iF (fun x hx=>hb x (by simpa using hx))];rfl,rfl⟩ (ao.fin [0,1] 0 zr zr)
def uU(A X:HP)(v:Value)(l:List Tk)(hv:Vw A v l.length (l.map df))(hlen:l.length≤1000000)(g:FuncId)(cap:List Value)(p:Tk→Bool)(hf:∀x∈l,au Tryz.prog g (ptr x.yb::cap) [X] (fun v H=>v = .bool (p x)∧H=[X])) :
  au Tryz.prog 277 [v,.func (.func g) #[] cap.toArray] [A,X] (fun r H=>r = .bool (l.any p)∧H=[A,X]):=by
 refine au.enter Tryz.func277 ah rfl Tryz.ntmps277 zr zr ?_
 intro G F R hR
 refine go ?_
 refine cg [0,1] zr zr zr zr (sA A X v l hv hlen g cap p hf) rfl jk ?_
 rintro _ _⟨rfl,rfl⟩
 refine go ?_
 have hb:decide (0≤gM p l)=l.any p:=by
  rw[show decide (0≤gM p l)=decide (¬gM p l<0)from by rw[decide_eq_decide];omega]
  rw[Bool.eq_iff_iff,decide_eq_true_iff,jQ (p:=p) (l:=l),Bool.not_eq_false]
 refine aK hR Tryz.func277 rfl _ rfl ⟨congrArg Value.bool hb,rfl⟩ (ao.fin [0,1] 0 zr zr)
def Dl(ts:List Tk)(x:Bl)(bx:Nat)(y:Tk)(hy:y∈ts):au Tryz.prog 278 [ptr y.yb,ptr bx] [Sep [bC ts,ae bx (cl (ck x) 77)] ] (fun r H=>r = .bool (decide (y.x.d=x.d))∧H=[Sep [bC ts,ae bx (cl (ck x) 77)] ]):=by
 obtain⟨i,hi⟩:=List.mem_iff_getElem?.1 hy
 refine au.ak Tryz.func278 Tryz.ntmps278 fun G F R hE=>?_
 refine al (ao.bY [_,_] _) ?_
 refine al (rf hi _) ?_
 refine cX (hD y) ?_
 rintro z hz
 refine al (H':=ae y.yb (cl (ri y) 163)::ae bx (cl (ck x) 77)::ae y.sb (cl [.int .i64 (y.n:Int),z.1] 376)::aB 46 1 z.1 y.ws.length (qV y.ws)::aI (Value.int .i64) y.mb z.2.1::a7 32 z.2.2::bC (ts.take i++ts.drop (i+1))::F) ag (go ?_)
 refine aL (fun w=>Sat G w ([ae y.yb (cl (ri y) 163),ae bx (cl (ck x) 77)])) (cJ 0 9 .nil) rfl ah ah ah dv ?_
 refine go ?_
 refine cC (U:=aU) 0 zr zr zr zr zr zr (go ?_)
 refine cC (U:=aU) 1 zr zr zr zr zr zr (go ?_)
 refine gQ (b:=decide (y.x.d=x.d)) zr zr zr yq (fun w=>yu y.x.d x.d w) ?_
 refine go ?_
 refine al (H':=uW y z++(bC (ts.take i++ts.drop (i+1))::ae bx (cl (ck x) 77)::F)) (by unfold uW;exact ag) ?_
 refine al (jY hz _) ?_
 refine al (q9 hi _) ?_
 refine al (ao.bK [_,_] _) ?_
 refine ad hE Tryz.func278 zr zr ⟨rfl,rfl⟩
theorem JI(tb bs jb:Nat)(tv:Value)(br:Bool)(ts:List Tk)(x:Bl)(hl:ts.length≤1000000):au Tryz.prog 275 [ptr tb,jU x] (fq tb bs jb tv ts br) (fun r H=>r=tkV (qk ts x)∧H=fq tb bs jb tv ts br):=by
  unfold fq jU
  refine au.ak Tryz.func275 Tryz.ntmps275 fun G F R hE=>?_
  refine db 1 rfl ?_
  rintro a c rfl
  refine eh 1 rfl ?_
  intro cW
  refine aD rfl ?_
  refine bu zr zr bh ?_
  intro b3
  refine go ?_
  refine bj (fun i:Nat=>i≤ts.length∧∀y∈ts.take i,y.x≠x) (fun i=>ts.length-i) (fun i=>[(3,ptr b3),(10,.slice a ts.length c),(11,.int .i64 (ts.length:Int)),(12,.int .i64 (i:Int))])
    (fun _=>aB 158 1 (.slice a ts.length c) ts.length (ts.map df)::bC ts::ae tb (cl [ptr bs,ptr jb,.slice a ts.length c,.bool br] 156)::ae b3 (cl (ck x) 77)::F) 0 ⟨Nat.zero_le _,by simp⟩ rfl bS ag ?_
  rintro i⟨hi,hb⟩ ih
  refine go ?_
  refine aq zr zr ?_ ?_
  · intro cL
    have dA:i<ts.length:=by omega
    obtain⟨y,hx⟩:∃x,ts[i]?=some x:=⟨ts[i],by simp[dA]⟩
    obtain⟨b,o,eY,dL⟩:=cW.some (OA dA)
    simp only[Value.slice.injEq]at dL
    obtain⟨rfl,_,rfl⟩:=dL
    refine go ?_
    refine bp i zr zr zr zr zr zr zr zr dA ?_
    refine aP ?_
    refine aQ 0 i zr zr zr cW rfl (rh hx) zr zr (go ?_)
    refine al (H':=bC ts::aB 158 1 (.slice (some ⟨b,o,none⟩) ts.length c) ts.length (ts.map df)::ae tb (cl [ptr bs,ptr jb,.slice (some ⟨b,o,none⟩) ts.length c,.bool br] 156)::ae b3 (cl (ck x) 77)::F) ag ?_
    refine al (rf hx _) ?_
    refine cX (hD y) ?_
    rintro z hz
    refine al (H':=ae y.yb (cl (ri y) 163)::ae b3 (cl (ck x) 77)::ae y.sb (cl [.int .i64 (y.n:Int),z.1] 376)::aB 46 1 z.1 y.ws.length (qV y.ws)::aI (Value.int .i64) y.mb z.2.1::a7 32 z.2.2::bC (ts.take i++ts.drop (i+1))::aB 158 1 (.slice (some ⟨b,o,none⟩) ts.length c) ts.length (ts.map df)::ae tb (cl [ptr bs,ptr jb,.slice (some ⟨b,o,none⟩) ts.length c,.bool br] 156)::F) ag ?_
    refine aL (fun w=>Sat G w ([ae y.yb (cl (ri y) 163),ae b3 (cl (ck x) 77)])) (cJ 0 6 .nil) rfl ah ah ah dv ?_
    refine go ?_
    refine cC (U:=aU) (cs:=ck y.x) 0 zr zr zr zr zr zr (go ?_)
    refine bX (U:=aU) (l:=ck x) 1 zr zr zr zr zr zr (go ?_)
    refine gQ (b:=decide (y.x=x)) zr zr zr acB (fun w=>acF y.x x w) ?_
    by_cases hyx:y.x=x
    · rw[decide_eq_true hyx]
      have Fz:qk ts x=some y:=by
        unfold qk
        rw[Ek hx,List.find?_append,List.find?_eq_none.2 (fun w hw=>by simpa using hb w hw)]
        simp[hyx]
      rw[Fz]at hE
      refine go ?_
      refine al (H':=uW y z++(bC (ts.take i++ts.drop (i+1))::ae tb (cl [ptr bs,ptr jb,.slice (some ⟨b,o,none⟩) ts.length c,.bool br] 156)::aB 158 1 (.slice (some ⟨b,o,none⟩) ts.length c) ts.length (ts.map df)::F)) (by unfold uW;exact ag) ?_
      refine al (jY hz _) ?_
      refine al (q9 hx _) ?_
      refine al (H':=ae tb (cl [ptr bs,ptr jb,.slice (some ⟨b,o,none⟩) ts.length c,.bool br] 156)::aB 158 1 (.slice (some ⟨b,o,none⟩) ts.length c) ts.length (ts.map df)::bC ts::F) ag ?_
      refine ad hE Tryz.func275 zr zr ⟨rfl,rfl⟩
    · rw[decide_eq_false hyx]
      refine go ?_
      refine al (H':=uW y z++(bC (ts.take i++ts.drop (i+1))::aB 158 1 (.slice (some ⟨b,o,none⟩) ts.length c) ts.length (ts.map df)::ae tb (cl [ptr bs,ptr jb,.slice (some ⟨b,o,none⟩) ts.length c,.bool br] 156)::ae b3 (cl (ck x) 77)::F)) (by unfold uW;exact ag) ?_
      refine al (jY hz _) ?_
      refine al (q9 hx _) ?_
      refine al (H':=aB 158 1 (.slice (some ⟨b,o,none⟩) ts.length c) ts.length (ts.map df)::bC ts::ae tb (cl [ptr bs,ptr jb,.slice (some ⟨b,o,none⟩) ts.length c,.bool br] 156)::ae b3 (cl (ck x) 77)::F) ag ?_
      refine aM ih (i+1) rfl (⟨ai,fun w hw=>by
        rw[List.take_add_one,hx,Option.toList_some]at hw
        rcases List.mem_append.1 hw with h|h
        · exact hb w h
        · rw[List.mem_singleton.1 h];exact hyx⟩) ai bS ag
  · intro ep
    have qY:i=ts.length:=by omega
    subst qY
    have Fz:qk ts x=none:=by
      grind [qk]
    rw[Fz]at hE
    clear ih
    refine go ?_
    refine al (H':=ae tb (cl [ptr bs,ptr jb,.slice a ts.length c,.bool br] 156)::aB 158 1 (.slice a ts.length c) ts.length (ts.map df)::bC ts::F) ag ?_
    refine ad hE Tryz.func275 zr zr ⟨rfl,rfl⟩
def rK(b2 b3 jb:Nat):List Value:=[.func (.func 367) #[] #[ptr b2,ptr b3],.func (.func 369) #[ptr jb] #[] ]
def IT(tb bs jb:Nat)(tv:Value)(a:Option Addr)(n c:Nat):au Tryz.prog 280 [ptr tb,.slice a n c] [sF tb bs jb tv false]
  (fun r H=>∃b2 b3 row,r = .slice (some ⟨row,0,none⟩) 2 2∧H=[ae row (cl (rK b2 b3 jb) 101),ae b2 (cl [ptr tb] 92),ae b3 (cl [.slice a n c] 22),sF tb bs jb tv false]):=by
 unfold sF
 refine au.ak Tryz.func280 Tryz.ntmps280 fun G F R hE=>?_
 refine aD rfl ?_
 refine bu zr zr bh ?_
 intro b2
 refine bu zr zr bh ?_
 intro b3
 refine go ?_
 refine aj (cs:=rK b2 b3 jb) zr zr zr zr zr zr zr zr zr bh ?_
 intro row
 refine go ?_
 refine ad hE Tryz.func280 zr zr ⟨b2,b3,row,rfl,rfl⟩
def E2(tb bs jb bd b2 b3:Nat)(tv:Value)(A:Ab)(x:JN)(Z:HP)(a:Option Addr)(c:Nat)(b:List UInt8)(hb:ew Z (.slice a b.length c) b)(hl:b.length≤9223372036854775807)(hs:0≤x.s∧x.s≤1000000000)(ir:A.writes.length≤1000000000) :
  au Tryz.prog 367 [ptr b2,ptr b3] [sF tb bs jb tv false,aC bd A,kx jb bd gm x,ae b2 (cl [ptr tb] 92),ae b3 (cl [.slice a b.length c] 22),Z]
  (fun r H=>r = .int .i64 ((eP gm A x b).1:Int)∧H=[sF tb bs jb tv false,aC bd (eP gm A x b).2.1,kx jb bd gm (eP gm A x b).2.2,ae b2 (cl [ptr tb] 92),ae b3 (cl [.slice a b.length c] 22),Z]):=by
 have FE:=GB jb bd gm A x Z _ b hb hl hs ir
 unfold sF
 refine au.ak Tryz.func367 Tryz.ntmps367 fun G F R hE=>?_
 refine go ?_
 refine aL (fun w=>Sat G w ([ae tb (cl [ptr bs,ptr jb,tv,.bool false] 156),ae b2 (cl [ptr tb] 92),ae b3 (cl [.slice a b.length c] 22)])) (cJ 0 5 (.act 5 (.st 6 .nil))) rfl ah ah ah dv ?_
 refine go ?_
 refine bE FE ?_
 refine go ?_
 refine al (H':=ae tb (cl [ptr bs,ptr jb,tv,.bool false] 156)::aC bd (eP gm A x b).2.1::kx jb bd gm (eP gm A x b).2.2::ae b2 (cl [ptr tb] 92)::ae b3 (cl [.slice a b.length c] 22)::Z::F) ag ?_
 refine ad hE Tryz.func367 zr zr ⟨rfl,rfl⟩
def Di(tb bs jb bd b2 b3:Nat)(q:Int)(hq:0≤q∧q≤1073741824)(mb:Nat)(tv:Value)(s:ml)(x:Bl)(M6:py s.cq)(dK:s.A.aV.length≤900000000)(ir:s.A.writes.length≤900000000) :
  au Tryz.prog 279 [ptr b2,ptr b3] (sF tb bs jb tv false::(jo bs bd q mb s++[ae b2 (cl [ptr tb] 92),ae b3 (cl (ck x) 77)]))
  (fun r H=>∃(e:Nat) (t:ml),r = .int .i64 (e:Int)∧H=sF tb bs jb tv false::(jo bs bd q mb t++[ae b2 (cl [ptr tb] 92),ae b3 (cl (ck x) 77)])∧e7 q x s e t):=by
 have Jv:=D5 bs bd q hq mb s x M6 dK ir
 unfold jU at Jv
 unfold sF
 refine au.ak Tryz.func279 Tryz.ntmps279 fun G F R hE=>?_
 refine go ?_
 refine aL (fun w=>Sat G w ([ae tb (cl [ptr bs,ptr jb,tv,.bool false] 156),ae b2 (cl [ptr tb] 92),ae b3 (cl (ck x) 77)])) (cJ 0 5 (.act 5 (.st 6 .nil))) rfl ah ah ah dv ?_
 refine go ?_
 refine bX (U:=aU) (l:=ck x) 2 zr zr zr zr zr zr (go ?_)
 refine de rfl rfl rfl rfl Jv ag ?_ (fun _ _ w hp hw=>by obtain⟨_,_,rfl,rfl,_⟩:=hp;exact hw.cu ag)
 rintro _ _⟨e,t,rfl,rfl,hR⟩
 refine go ?_
 refine al (H':=ae tb (cl [ptr bs,ptr jb,tv,.bool false] 156)::(jo bs bd q mb t++(ae b2 (cl [ptr tb] 92)::ae b3 (cl (ck x) 77)::F))) ag ?_
 refine ad hE Tryz.func279 zr zr ⟨e,t,rfl,rfl,hR⟩
end Go.Proofs.YtlcoaflddajjcaaGreatDoor
namespace Go.Proofs.YtlcoaflddajjcaaGreatDoor
open Go Go.SL
def rz:Int→List (List UInt8)→List (Int × List UInt8)
 | _,[]=>[]
 | i,x::l=>(i,x)::rz (i+1) l
def EM(k:UInt8)(d:Dg)(ls:List (List UInt8)):List (Int × List UInt8):=(1,[k])::(2,d.bs)::rz 3 ls
def yf(k:UInt8)(d:Dg)(ls:List (List UInt8)):List UInt8:=cn (EM k d ls)
theorem Cg:∀(i:Int) (l:List (List UInt8)) (x:List UInt8),rz i (l++[x])=rz i l++[(i+l.length,x)]
 | i,[],x=>by simp[rz]
 | i,y::l,x=>by
  simp only[List.cons_append,rz,Cg (i+1) l x,List.length_cons,List.cons_append]
  grind
theorem zc:∀(i:Int) (l:List (List UInt8)) (last:Int),last<i→i+l.length≤64→dF last (rz i l)=true
 | i,[],last,h,h2=>rfl
 | i,y::l,last,h,h2=>by
  simp only[rz,dF,List.length_cons]at h2 ⊢
  rw[decide_eq_true h,decide_eq_true (show i≤63 by omega),zc (i+1) l i ai ai]
  rfl
theorem I5{n:Int}{b:List UInt8}(h:b.length≤32):(fH (n,b)).length≤34:=by
 grind [uv,fX,fH]
theorem Cf:∀(i:Int) (l:List (List UInt8)) (z:Int × List UInt8),z∈rz i l→z.2∈l
 | i,[],z,h=>by cases h
 | i,y::l,z,h=>by
  rcases List.mem_cons.1 h with rfl|h
  ·grind
  ·exact List.mem_cons_of_mem _ (Cf (i+1) l z h)
theorem vZ:∀(i:Int) (l:List (List UInt8)),(rz i l).length=l.length
 | i,[]=>rfl
 | i,y::l=>by simp[rz,vZ (i+1) l]
theorem GX:∀(l:List (Int × List UInt8)),(∀z∈l,z.2.length≤32)→(cn l).length≤34*l.length
 | [],_=>by simp[cn]
 | z::l,h=>by
  have h1:=GX l (fun w hw=>h w (List.mem_cons_of_mem _ hw))
  grind [I5,cn,fH]
theorem rB(k:UInt8)(d:Dg)(ls:List (List UInt8))(hl:ls.length≤20)(hx:∀x∈ls,x.length≤32):(yf k d ls).length≤748:=by
 have:=GX (EM k d ls) (fun z hz=>by
  unfold EM at hz
  rcases List.mem_cons.1 hz with rfl|hz
  ·simp
  rcases List.mem_cons.1 hz with rfl|hz
  ·simp only;rw[d.len];omega
  ·exact hx _ (Cf 3 ls z hz))
 grind [EM,vZ,yf]
theorem IB(k:UInt8)(d:Dg)(ls:List (List UInt8))(hl:ls.length≤20):dF 0 (EM k d ls)=true:=by
 grind [EM,dF,zc]
attribute [local irreducible] J K au Ends ae aB aI bB aW aS a7 aX bF aC
theorem vY(k:UInt8)(d:Dg)(Z:HP)(mv:Value)(ls:List (List UInt8))(hv:qN Z mv ls)(hl:ls.length≤20)(adl:∀x∈ls,x.length≤32) :
  au Tryz.prog 253 [u8 k,dV d,mv] [Z] (fun r H=>H=[aB 5 1 r (yf k d ls).length (bV (yf k d ls)),Z]):=by
 have Jd:=rB k d ls hl adl
 have hrr:=IB k d ls hl
 obtain⟨cs,cW,mX,⟨a2,c2,rfl,hc2⟩,qg⟩:=hv
 unfold dV
 refine au.ak Tryz.func253 Tryz.ntmps253 fun G F R hE=>?_
 refine aD rfl ?_
 refine bu zr zr bh ?_
 intro b4
 refine go ?_
 refine aj (cs:=bV [k]) zr zr zr zr zr zr zr zr zr bh ?_
 intro r0
 refine go ?_
 refine fW (U:=aU) zr zr zr zr zr (go ?_)
 obtain⟨uP,wJ⟩:∃uP:List It,uP=[⟨1,.slice (some ⟨r0,0,none⟩) 1 1,[k]⟩,⟨2,.slice (some ⟨b4,0,none⟩) 32 32,d.bs⟩]:=⟨_,rfl⟩
 have h2l:uP.length=2:=by rw[wJ];rfl
 refine aj (cs:=uP.flatMap gY) zr zr zr zr zr zr zr zr (by rw[wJ];rfl) bh ?_
 intro row
 refine go ?_
 obtain⟨Y,hY⟩:∃Y,Y=Sep [ae r0 (cl (bV [k]) 5),ae b4 (cl (dC d) 32),Z]:=⟨_,rfl⟩
 have hYZ:∀h,Y h→∃h',sub h' h∧Z h':=by rw[hY];exact bn (i:=2) rfl
 have hB0:∀z∈uP,ew Y z.v z.b:=by
  intro z hz
  rw[wJ]at hz
  simp only[List.mem_cons,List.not_mem_nil,or_false]at hz
  rcases hz with rfl|rfl
  ·rw[hY];exact ew.mono (⟨Vw.ae rfl,_,_,rfl,Nat.le_refl _⟩) (bn (i:=0) rfl)
  ·rw[hY];exact(ew.block d.len (dW d)).mono (bn (i:=1) rfl)
 have Fs:uP.map It.p=(1,[k])::(2,d.bs)::rz 3 (ls.take 0):=by rw[wJ];rfl
 refine al (H':=aB 229 2 (.slice (some ⟨row,0,none⟩) uP.length 2) uP.length (uP.flatMap gY)::Y::F) ?_ ?_
 ·rw[hY]
  refine ao.trans (H2:=ae r0 (cl (bV [k]) 5)::ae b4 (cl (dC d) 32)::Z::ae row (cl (uP.flatMap gY++[]) 229)::F) (by rw[List.append_nil];exact ag) ?_
  refine(ao.bK [_,_,_] _).trans ?_
  refine(ao.perm (List.Perm.swap ..)).trans ?_
  rw[h2l]
  exact ef 229 2 row 2 2 (uP.flatMap gY) [] _ (by rw[wJ];rfl) (Nat.le_refl _) (by rw[wJ];simp[gY])
 refine bj (fun y:Nat × List It × Option Addr × Nat=>y.1≤ls.length∧y.2.1.map It.p=(1,[k])::(2,d.bs)::rz 3 (ls.take y.1)∧∀z∈y.2.1,ew Y z.v z.b) (fun y=>ls.length-y.1)
  (fun y=>[(7,.slice y.2.2.1 y.2.1.length y.2.2.2),(18,.slice a2 ls.length c2),(19,.int .i64 (ls.length:Int)),(20,.int .i64 (y.1:Int))])
  (fun y=>aB 229 2 (.slice y.2.2.1 y.2.1.length y.2.2.2) y.2.1.length (y.2.1.flatMap gY)::Y::F) (0,uP,some ⟨row,0,none⟩,2) ⟨Nat.zero_le _,Fs,hB0⟩ rfl (by rw[h2l];exact bS) ag ?_
 clear Fs hB0 h2l wJ
 rintro⟨i,dJ,ia,ic⟩⟨hi,nT,sL⟩ ih
 simp only at hi nT sL
 dsimp only
 have Zf:dJ.length=i+2:=by
  have:=congrArg List.length nT
  grind [vZ]
 refine go ?_
 refine aq zr zr ?_ ?_
 ·intro cL
  have dA:i<ls.length:=by omega
  obtain⟨x,hx⟩:∃x,ls[i]?=some x:=⟨ls[i],by simp⟩
  obtain⟨cv,hc1,wO⟩:=qg i x hx
  obtain⟨xa,xc,rfl,hxc⟩:=wO.2
  obtain⟨b,o,eY,dL⟩:=cW.some (by intro h;rw[h]at mX;simp at mX;omega)
  simp only[Value.slice.injEq]at dL
  obtain⟨rfl,_,rfl⟩:=dL
  have adp:=cW.mono hYZ
  refine go ?_
  refine bp i zr zr zr zr zr zr zr zr dA ?_
  refine aP ?_
  refine aQ 1 i zr zr zr adp rfl hc1 zr zr (go ?_)
  refine aj (cs:=gY ⟨3+(i:Int),.slice xa x.length xc,x⟩) zr zr zr zr zr zr zr zr zr bh ?_
  intro Iw
  refine go ?_
  refine aJ (mm:=1) (news:=gY ⟨3+(i:Int),.slice xa x.length xc,x⟩) 1 0 rfl rfl rfl rfl rfl rfl rfl rfl rfl rfl rfl rfl (Vw.ae rfl) rfl (by intro v hv;simp[gY]at hv;rcases hv with rfl|rfl <;> rfl) ai (by show(_+_)*32≤_;omega) (fun _=>rfl) bh ?_
  intro v1
  rw[show dJ.flatMap gY++gY (⟨3+(i:Int),.slice xa x.length xc,x⟩:It)=(dJ++[(⟨3+(i:Int),.slice xa x.length xc,x⟩:It)]).flatMap gY from by simp,show dJ.length+1=(dJ++[(⟨3+(i:Int),.slice xa x.length xc,x⟩:It)]).length from by simp]
  refine aH 1 rfl ?_
  rintro ja jc rfl
  have Fx:(dJ++[(⟨3+(i:Int),.slice xa x.length xc,x⟩:It)]).map It.p=(1,[k])::(2,d.bs)::rz 3 (ls.take (i+1)):=by
   rw[List.map_append,nT,List.take_add_one,hx,Option.toList_some,Cg,List.length_take,Nat.min_eq_left ai]
   rfl
  refine go ?_
  refine aM ih (i+1,dJ++[(⟨3+(i:Int),.slice xa x.length xc,x⟩:It)],ja,jc) rfl ⟨by simp only;omega,Fx,fun z hz=>(by rcases List.mem_append.1 hz with h|h;exact sL z h;rw[List.mem_singleton.1 h];exact wO.mono hYZ)⟩ (by simp only;omega) bS ag
 ·intro ep
  have qY:i=ls.length:=by omega
  subst qY
  rw[List.take_length]at nT
  have Zg:dJ.map It.p=EM k d ls:=nT
  clear ih
  refine eh 0 rfl ?_
  intro hvi
  have rP:=lZ (Sep [aB 229 2 (.slice ia dJ.length ic) dJ.length (dJ.flatMap gY),Y]) (.slice ia dJ.length ic) dJ ⟨hvi.mono (bn (i:=0) rfl),fun z hz=>(sL z hz).mono (bn (i:=1) rfl)⟩ ai (by rw[Zg];exact hrr) (by rw[Zg];exact Nat.le_trans Jd ai)
  rw[Zg]at rP
  refine go ?_
  refine aN (ao.bK [_,_] _) ?_
  refine aF rP ?_
  rintro _ _⟨rr,rfl,rfl⟩
  refine go ?_
  refine al (ao.cons _ (ao.bY [_,_] _)) ?_
  refine al (H':=Y::aB 5 1 rr (yf k d ls).length (bV (yf k d ls))::F) ag ?_
  rw[hY]
  refine al (ao.bY [_,_,_] _) ?_
  refine al (H':=aB 5 1 rr (yf k d ls).length (bV (yf k d ls))::Z::F) ag ?_
  refine aK hE Tryz.func253 rfl _ zr zr ag
def lh(x:Bl):List (List UInt8):=[uv x.size.toNat,uv x.piece.toNat,x.root.bs]
def cE(x:Bl):List UInt8:=yf 1 x.d (lh x)
theorem qL(x:Bl)(hs:x.size≤1000000000000)(hp:x.piece≤1000000000000):∀b∈lh x,b.length≤32:=fun b hb=>by
 simp only[lh,List.mem_cons,List.not_mem_nil,or_false]at hb
 rcases hb with rfl|rfl|rfl
 ·grind [mu]
 ·grind [mu]
 ·rw[x.root.len];omega
def ql(x:Bl)(hs:0≤x.size∧x.size≤1000000000000)(hp:0≤x.piece∧x.piece≤1000000000000) :
  au Tryz.prog 140 [jU x] [] (fun r H=>H=[aB 5 1 r (cE x).length (bV (cE x))]):=by
 obtain⟨sz,iJ⟩:∃m:Nat,x.size=m:=⟨x.size.toNat,ai⟩
 obtain⟨pc,KI⟩:∃m:Nat,x.piece=m:=⟨x.piece.toNat,ai⟩
 have hlen:=qL x hs.2 hp.2
 unfold jU
 refine au.ak Tryz.func140 Tryz.ntmps140 fun G F R hE=>?_
 refine aD rfl ?_
 refine bu zr zr bh ?_
 intro b1
 refine go ?_
 refine aL (fun w=>Sat G w ([ae b1 (cl (ck x) 77)])) (cJ 0 5 (cJ 6 3 (.st 10 (.st 11 (.act 5 (.act 9 (.act 12 (.act 13 (.st 14 .nil))))))))) rfl ah ah ah dv ?_
 (repeat(first|refine er ?_|refine cC (U:=aU) 0 zr zr zr zr zr zr ?_|refine fW (U:=aU) zr zr zr zr zr ?_))
 refine aG 7 ((.int .u64 (sz:Int))) rfl ((congrArg (Value.int .u64) iJ)) ?_
 refine aG 11 ((.int .u64 (pc:Int))) rfl ((congrArg (Value.int .u64) KI)) ?_
 refine cT (lk sz ai) ?_
 rintro r8 _ rfl
 refine aH 0 rfl ?_
 rintro a8 c8 rfl
 refine go ?_
 refine cT (lk pc ai) ?_
 rintro r9 _ rfl
 refine aH 0 rfl ?_
 rintro a9 c9 rfl
 refine eZ (bs:=uv pc) 0 rfl ?_
 intro PK
 refine eZ (bs:=uv sz) 1 rfl ?_
 intro Oo
 refine go ?_
 obtain⟨cs,qh⟩:∃cs:List Value,cs=[.slice a8 (uv sz).length c8,.slice a9 (uv pc).length c9,.slice (some ⟨b1,34,none⟩) 32 32]:=⟨_,rfl⟩
 refine aj (cs:=cs) zr zr zr zr zr zr zr zr (by rw[qh];rfl) (fun _ _ hw=>hw.cu ag) ?_
 intro row
 have lz:qN (Sep [ae row (cl cs 22),aB 5 1 (.slice a8 (uv sz).length c8) (uv sz).length (bV (uv sz)),aB 5 1 (.slice a9 (uv pc).length c9) (uv pc).length (bV (uv pc)),ae b1 (cl (ck x) 77)]) (.slice (some ⟨row,0,none⟩) 3 3) (lh x):=by
  refine⟨cs,(Vw.ae (by rw[qh];rfl)).mono (bn (i:=0) rfl),by rw[qh];rfl,⟨_,_,rfl,Nat.le_refl _⟩,fun i y hy=>?_⟩
  have adz:x.size.toNat=sz:=by omega
  have adJ:x.piece.toNat=pc:=by omega
  unfold lh at hy
  rw[adz,adJ]at hy
  match i,hy with
  | 0,hy=>cases hy;exact⟨_,by rw[qh];rfl,Oo.mono (bn (i:=1) rfl)⟩
  | 1,hy=>cases hy;exact⟨_,by rw[qh];rfl,PK.mono (bn (i:=2) rfl)⟩
  | 2,hy=>cases hy;exact⟨_,by rw[qh];rfl,(ew.LV x.root.len (by rw[← dW];exact No x)).mono (bn (i:=3) rfl)⟩
  | i+3,hy=>simp at hy
 have Pg:=vY 1 x.d _ _ (lh x) lz (by simp[lh]) hlen
 unfold dV at Pg
 clear lz
 clear qh
 refine go ?_
 refine aN (ao.trans (H2:=ae row (cl cs 22)::aB 5 1 (.slice a8 (uv sz).length c8) (uv sz).length (bV (uv sz))::aB 5 1 (.slice a9 (uv pc).length c9) (uv pc).length (bV (uv pc))::ae b1 (cl (ck x) 77)::F) ag (ao.bK [_,_,_,_] _)) ?_
 refine de rfl rfl rfl rfl Pg ag ?_ (fun _ _ w hp hw=>by obtain rfl:=hp;exact hw.cu (ao.trans (ao.pick [1] rfl) (ao.trans (ao.bY [_,_,_,_] _) ag)))
 rintro rr _ rfl
 refine go ?_
 refine al (H':=aB 5 1 rr (cE x).length (bV (cE x))::F) ag ?_
 refine aK hE Tryz.func140 rfl _ zr zr ag
end Go.Proofs.YtlcoaflddajjcaaGreatDoor
namespace Go.Proofs.YtlcoaflddajjcaaGreatDoor
open Go Go.SL
def JX(e:TypeId)(H:List HP):ao H (a7 e []::H):=ao.lj H
attribute [local irreducible] J K au Ends ae aB aI bB aW aS a7 aX bF aC
def zB(x:Bl):au Tryz.prog 133 [jU x] [] (fun r H=>∃y:Tk,r=ptr y.yb∧H=[qa y]∧y.x=x∧(y.n:Int)=dM x∧y.ws=List.replicate ((y.n+63)/64) 0#64∧y.pf=fun _=>none):=by
 have mX:=zK x
 obtain⟨n,hn⟩:∃n:Nat,dM x=n:=⟨(dM x).toNat,ai⟩
 have hc:=tU x
 rw[hn]at hc
 have MR:=Oa n ai
 unfold jU at hc ⊢
 unfold jt at MR
 refine au.ak Tryz.func133 Tryz.ntmps133 fun G F R hE=>?_
 refine aD rfl ?_
 refine bu zr zr bh ?_
 intro b1
 refine go ?_
 refine aO (U:=aU) (l:=ck x) 0 zr zr zr zr zr zr ?_
 refine aw hc ?_
 refine go ?_
 refine aF MR ?_
 rintro _ _⟨sb,wv,rfl,rfl⟩
 refine go ?_
 refine aN (H':=ae b1 (cl (ck x) 77)::ae sb (cl [.int .i64 (n:Int),wv] 376)::aB 46 1 wv (List.replicate ((n+63)/64) 0#64).length (qV (List.replicate ((n+63)/64) 0#64))::F) ag (go ?_)
 refine aO (U:=aU) (l:=ck x) 0 zr zr zr zr zr zr (go ?_)
 refine eG rfl bh ?_
 intro mb
 refine aN (ao.fold (B:=[_]) (A:=aI (Value.int .i64) mb []) (fun h hs=>⟨h,sub.refl h,gA (Value.int .i64) mb h (dp hs)⟩)) ?_
 refine go ?_
 refine bu zr zr bh ?_
 intro yb
 refine go ?_
 obtain⟨y,hy⟩:∃y:Tk,y=⟨yb,sb,mb,x,n,List.replicate ((n+63)/64) 0#64,fun _=>none⟩:=⟨_,rfl⟩
 have hR:HU (wv,[],[]) y:=fun k=>by rw[hy];rfl
 refine al (H':=uW y (wv,[],[])++F) ?_ ?_
 ·rw[hy]
  unfold uW
  exact ao.trans (JX 32 _) ag
 refine al (jY hR F) ?_
 ((refine ad hE Tryz.func133 zr zr ⟨y,by rw[hy];rfl,rfl,by rw[hy],by rw[hy];exact hn.symm,by rw[hy],by rw[hy]⟩))
end Go.Proofs.YtlcoaflddajjcaaGreatDoor
namespace Go.Proofs.YtlcoaflddajjcaaGreatDoor
open Go Go.SL
def Yy(x:jM):jM:=(x >>> 1 &&& BitVec.ofInt 64 6148914691236517205)+(x &&& BitVec.ofInt 64 6148914691236517205)
def Yx(x:jM):jM:=(x >>> 2 &&& BitVec.ofInt 64 3689348814741910323)+(x &&& BitVec.ofInt 64 3689348814741910323)
def OU(x:jM):jM:=(x >>> 4+x) &&& BitVec.ofInt 64 1085102592571150095
def AE(k:Nat)(x:jM):jM:=x+x >>> k
def IF(x:jM):jM:=AE 32 (AE 16 (AE 8 (OU (Yx (Yy x)))))
def IG(y:jM):Int:=IntKind.i64.wrap ((BitVec.ofInt IntKind.i64.bits (IntKind.i64.wrap (y.toNat:Int)) &&& BitVec.ofInt IntKind.i64.bits 127).toNat:Int)
theorem GZ(y:jM):0≤IG y∧IG y≤127:=by
 have h:(BitVec.ofInt IntKind.i64.bits (IntKind.i64.wrap (y.toNat:Int)) &&& BitVec.ofInt IntKind.i64.bits 127).toNat≤127:=by
  rw[BitVec.toNat_and]
  exact Nat.le_trans Nat.and_le_right (by decide)
 grind [IG,dx,fz]
def tP(p:jM)(c:Int):IntKind.u64.wrap ((BitVec.ofInt IntKind.u64.bits (p.toNat:Int) &&& BitVec.ofInt IntKind.u64.bits c).toNat:Int)=((p &&& BitVec.ofInt 64 c).toNat:Int):=by
 rw[mD]
 exact lD (p &&& BitVec.ofInt 64 c)
def yx(ws:List jM):Int:=(ws.map fun w=>IG (IF w)).sum
theorem HO(ws:List jM):0≤yx ws∧yx ws≤127*ws.length:=by
 unfold yx
 induction ws with
 | nil=>simp
 | cons w ws ih =>
  have:=GZ (IF w)
  grind
attribute [local irreducible] J K au Ends ae aB aI bB aW aS a7 aX bF aC
def NL(x:jM):au Tryz.prog 366 [.int .u64 (x.toNat:Int)] [] (fun r H=>r = .int .i64 (IG (IF x))∧H=[]):=by
 refine au.ak Tryz.func366 Tryz.ntmps366 fun G F R hE=>?_
 refine go ?_
 refine pr (p:=x) 1 zr zr zr zr ai (go ?_)
 refine aG 5 ((.int .u64 ((x >>> 1 &&& BitVec.ofInt 64 6148914691236517205).toNat:Int))) rfl ((congrArg (Value.int .u64) (tP _ _))) ?_
 refine aG 7 ((.int .u64 ((x &&& BitVec.ofInt 64 6148914691236517205).toNat:Int))) rfl ((congrArg (Value.int .u64) (tP _ _))) ?_
 refine tS (p:=x >>> 1 &&& BitVec.ofInt 64 6148914691236517205) (q:=x &&& BitVec.ofInt 64 6148914691236517205) zr zr zr ?_
 rw[show(x >>> 1 &&& BitVec.ofInt 64 6148914691236517205)+(x &&& BitVec.ofInt 64 6148914691236517205)=Yy x from rfl]
 obtain⟨a,ha⟩:∃a,a=Yy x:=⟨_,rfl⟩
 rw[← ha]
 refine go ?_
 refine pr (p:=a) 2 zr zr zr zr ai (go ?_)
 refine aG 11 ((.int .u64 ((a >>> 2 &&& BitVec.ofInt 64 3689348814741910323).toNat:Int))) rfl ((congrArg (Value.int .u64) (tP _ _))) ?_
 refine aG 13 ((.int .u64 ((a &&& BitVec.ofInt 64 3689348814741910323).toNat:Int))) rfl ((congrArg (Value.int .u64) (tP _ _))) ?_
 refine tS (p:=a >>> 2 &&& BitVec.ofInt 64 3689348814741910323) (q:=a &&& BitVec.ofInt 64 3689348814741910323) zr zr zr ?_
 rw[show(a >>> 2 &&& BitVec.ofInt 64 3689348814741910323)+(a &&& BitVec.ofInt 64 3689348814741910323)=Yx a from rfl]
 obtain⟨b,hb⟩:∃b,b=Yx a:=⟨_,rfl⟩
 rw[← hb]
 refine go ?_
 refine pr (p:=b) 4 zr zr zr zr ai (go ?_)
 refine tS (p:=b >>> 4) (q:=b) zr zr zr (go ?_)
 refine aG 20 ((.int .u64 ((OU b).toNat:Int))) rfl ((congrArg (Value.int .u64) (tP _ _))) ?_
 refine aG 21 ((.int .u64 ((OU b).toNat:Int))) rfl ((congrArg (Value.int .u64) (tP _ _))) ?_
 obtain⟨c,hc⟩:∃c,c=OU b:=⟨_,rfl⟩
 rw[← hc]
 refine pr (p:=c) 8 zr zr zr zr ai (go ?_)
 refine tS (p:=c) (q:=c >>> 8) zr zr zr ?_
 rw[show c+c >>> 8=AE 8 c from rfl]
 obtain⟨d,hd⟩:∃d,d=AE 8 c:=⟨_,rfl⟩
 rw[← hd]
 refine go ?_
 refine pr (p:=d) 16 zr zr zr zr ai (go ?_)
 refine tS (p:=d) (q:=d >>> 16) zr zr zr ?_
 rw[show d+d >>> 16=AE 16 d from rfl]
 obtain⟨e,he⟩:∃e,e=AE 16 d:=⟨_,rfl⟩
 rw[← he]
 refine go ?_
 refine pr (p:=e) 32 zr zr zr zr ai (go ?_)
 refine tS (p:=e) (q:=e >>> 32) zr zr zr ?_
 rw[show e+e >>> 32=AE 32 e from rfl,show AE 32 e=IF x from by rw[he,hd,hc,hb,ha];rfl]
 refine go ?_
 refine gR zr zr zr zr zr zr (go ?_)
 refine ad hE Tryz.func366 zr zr ⟨rfl,rfl⟩
def GA(sb n:Nat)(wv:Value)(ws:List jM)(hl:ws.length≤65536):au Tryz.prog 276 [ptr sb] (jt sb n wv ws) (fun r H=>r = .int .i64 (yx ws)∧H=jt sb n wv ws):=by
 unfold jt
 refine au.ak Tryz.func276 Tryz.ntmps276 fun G F R hE=>?_
 refine db 1 rfl ?_
 rintro a c rfl
 refine eh 1 rfl ?_
 intro cW
 refine go ?_
 refine bj (fun i:Nat=>i≤ws.length) (fun i=>ws.length-i) (fun i=>[(3,.int .i64 (yx (ws.take i))),(9,.slice a ws.length c),(10,.int .i64 (ws.length:Int)),(11,.int .i64 (i:Int))])
  (fun _=>ae sb (cl [.int .i64 (n:Int),.slice a ws.length c] 376)::aB 46 1 (.slice a ws.length c) ws.length (qV ws)::F) 0 (Nat.zero_le _) rfl bS ag ?_
 intro i hi ih
 have hcb:=HO (ws.take i)
 rw[List.length_take,Nat.min_eq_left hi]at hcb
 refine go ?_
 refine aq zr zr ?_ ?_
 ·intro cL
  have dA:i<ws.length:=by omega
  obtain⟨w,hw⟩:∃w,ws[i]?=some w:=⟨ws[i],by simp[dA]⟩
  have gS:yx (ws.take (i+1))=yx (ws.take i)+IG (IF w):=by
   unfold yx
   rw[List.take_add_one,hw];simp
  have hpb:=GZ (IF w)
  obtain⟨b,o,eY,dL⟩:=cW.some (qNe dA)
  simp only[Value.slice.injEq]at dL
  obtain⟨rfl,_,rfl⟩:=dL
  refine go ?_
  refine bp i zr zr zr zr zr zr zr zr dA ?_
  refine aP ?_
  refine aQ 1 i zr zr zr cW rfl (EO hw) zr zr ?_
  unfold K7
  refine go ?_
  refine aw (NL w) ?_
  refine go ?_
  refine bq 3 ((.int .i64 (yx (ws.take (i+1))))) rfl ((congrArg (Value.int .i64) gS.symm)) ?_
  refine aM ih (i+1) rfl ai ai bS ag
 ·intro ep
  have qY:i=ws.length:=by omega
  subst qY
  rw[List.take_length]
  clear ih
  refine go ?_
  refine ad hE Tryz.func276 zr zr ⟨rfl,rfl⟩
def Tk.put(y:Tk)(i:Nat)(l:List Dg):Tk:=⟨y.yb,y.sb,y.mb,y.x,y.n,nk y.ws i true,fun j=>if j=(i:Int)then some l else y.pf j⟩
def K9(y:Tk)(i:Nat)(hi:i<y.n)(hn:y.n≤65536)(hw:y.n≤y.ws.length*64)(P:HP)(pv:Value)(l:List Dg)(hv:Vw P pv l.length (l.flatMap dC))(hl:l.length≤1000000) :
  au Tryz.prog 251 [ptr y.yb,.int .i64 (i:Int),pv] [qa y,P] (fun r H=>r = .tuple #[]∧H=[qa (y.put i l),P]):=by
 have mX:=N9 P pv l hv hl
 obtain⟨a,c,rfl⟩:=hv.shape
 refine au.ak Tryz.func251 Tryz.ntmps251 fun G F R hE=>?_
 refine cX (hD y) ?_
 rintro⟨wv,cs,M⟩ hz
 have ym:=D7 y.sb y.n wv y.ws hn hw i hi true
 unfold jt at ym
 refine al (H':=ae y.yb (cl (ri y) 163)::ae y.sb (cl [.int .i64 (y.n:Int),wv] 376)::aB 46 1 wv y.ws.length (qV y.ws)::aI (Value.int .i64) y.mb cs::a7 32 M::P::F) (by unfold uW;exact ag) ?_
 refine go ?_
 refine aw ym ?_
 refine go ?_
 refine aL (fun w=>Sat G w ([ae y.yb (cl (ri y) 163)])) (cJ 0 6 (.act 6 (.act 7 .nil))) rfl ah ah ah dv ?_
 refine go ?_
 refine cT mX ?_
 rintro r8 _ rfl
 refine go ?_
 refine aN (H':=aI (Value.int .i64) y.mb cs::aB 32 32 r8 l.length (l.flatMap dC)::a7 32 M::ae y.yb (cl (ri y) 163)::ae y.sb (cl [.int .i64 (y.n:Int),wv] 376)::aB 46 1 wv (nk y.ws i true).length (qV (nk y.ws i true))::P::F) ag ?_
 refine eB (kv:=Value.int .i64) (es:=cs) (key:=(i:Int)) (v:=r8) 0 (qy Tryz.underlying3) e8 zr zr zr zr zr zr zr zr (go ?_)
 refine al (ao.perm (List.Perm.swap ..)) ?_
 refine al (H':=aB 32 32 r8 l.length (l.flatMap dC)::a7 32 M::aI (Value.int .i64) y.mb (jG cs (i:Int) r8)::ae y.yb (cl (ri y) 163)::ae y.sb (cl [.int .i64 (y.n:Int),wv] 376)::aB 46 1 wv (nk y.ws i true).length (qV (nk y.ws i true))::P::F) ag ?_
 refine al (ao.join _ _ _) ?_
 refine cX (B6 32 32 l.length r8 (l.flatMap dC) M) ?_
 rintro M'⟨ael,dj⟩
 have hz':HU (wv,jG cs (i:Int) r8,M') (y.put i l):=HU.put hz (i:Int) r8 wv l M' dj ael _ rfl
 refine al (H':=uW (y.put i l) (wv,jG cs (i:Int) r8,M')++(P::F)) (by unfold uW;exact ag) ?_
 refine al (jY hz' _) ?_
 refine bL hE Tryz.func251 rfl _ rfl ⟨rfl,rfl⟩ ag
theorem JH{ts:List Tk}{x:Bl}{y:Tk}(h:qk ts x=some y):∃i:Nat,ts[i]?=some y∧y.x=x:=by
 unfold qk at h
 have h1:=List.find?_some h
 obtain⟨i,hi⟩:=List.mem_iff_getElem?.1 (List.mem_of_find?_eq_some h)
 grind
def QA(o:Option Tk):Value:=match o with
 | none => .tuple #[.int .i64 0,.int .i64 4]
 | some y => .tuple #[.int .i64 ((y.n:Int)-yx y.ws),.int .i64 0]
def DC(tb bs jb:Nat)(tv:Value)(br:Bool)(ts:List Tk)(x:Bl)(hl:ts.length≤1000000)(hn:∀y∈ts,y.n≤65536)(hw:∀y∈ts,y.ws.length≤65536) :
  au Tryz.prog 157 [ptr tb,jU x] (fq tb bs jb tv ts br) (fun r H=>r=QA (qk ts x)∧H=fq tb bs jb tv ts br):=by
 have hf:=JI tb bs jb tv br ts x hl
 unfold fq at hf ⊢
 unfold jU at hf ⊢
 refine au.ak Tryz.func157 Tryz.ntmps157 fun G F R hE=>?_
 refine aD rfl ?_
 refine bu zr zr bh ?_
 intro b3
 refine go ?_
 refine aO (U:=aU) (l:=ck x) 0 zr zr zr zr zr zr (go ?_)
 refine aw hf ?_
 refine go ?_
 cases Fz:qk ts x with
 | none =>
  rw[Fz]at hE
  unfold tkV
  refine go ?_
  refine ad hE Tryz.func157 zr zr ⟨rfl,rfl⟩
 | some y =>
  rw[Fz]at hE
  obtain⟨i,hi,hx⟩:=JH Fz
  have hym:y∈ts:=List.mem_of_getElem? hi
  have hyn:=hn y hym
  have Z':=hw y hym
  have hcb:=HO y.ws
  unfold tkV
  refine go ?_
  refine al (H':=bC ts::ae tb (cl [ptr bs,ptr jb,tv,.bool br] 156)::aB 158 1 tv ts.length (ts.map df)::F) ag ?_
  refine al (rf hi _) ?_
  refine cX (hD y) ?_
  rintro⟨wv,cs,M⟩ hz
  refine al (H':=ae y.yb (cl (ri y) 163)::ae y.sb (cl [.int .i64 (y.n:Int),wv] 376)::aB 46 1 wv y.ws.length (qV y.ws)::aI (Value.int .i64) y.mb cs::a7 32 M::bC (ts.take i++ts.drop (i+1))::ae tb (cl [ptr bs,ptr jb,tv,.bool br] 156)::aB 158 1 tv ts.length (ts.map df)::F) (by unfold uW;exact ag) ?_
  have PE:=GA y.sb y.n wv y.ws Z'
  unfold jt at PE
  refine aL (fun w=>Sat G w ([ae y.yb (cl (ri y) 163)])) (cJ 0 4 (cJ 5 4 (.act 4 (.act 9 (cJ 10 3 .nil))))) rfl ah ah ah dv ?_
  refine go ?_
  refine bE (sE y.sb y.n wv) ?_
  refine go ?_
  refine bE PE ?_
  refine go ?_
  refine al (H':=uW y (wv,cs,M)++(bC (ts.take i++ts.drop (i+1))::ae tb (cl [ptr bs,ptr jb,tv,.bool br] 156)::aB 158 1 tv ts.length (ts.map df)::F)) (by unfold uW;exact ag) ?_
  refine al (jY hz _) ?_
  refine al (q9 hi _) ?_
  refine al (H':=ae tb (cl [ptr bs,ptr jb,tv,.bool br] 156)::aB 158 1 tv ts.length (ts.map df)::bC ts::F) ag ?_
  refine ad hE Tryz.func157 zr zr ⟨rfl,rfl⟩
theorem yH(v:Value)(l:List Tk)(X:HP)(g:FuncId)(cap:List Value)(p:Tk→Bool)(hlen:l.length≤1000000)(hf:∀x∈l,au Tryz.prog g (ptr x.yb::cap) [X] (fun v H=>v = .bool (p x)∧H=[X])) :
  au Tryz.prog 245 [v,.func (.func g) #[] cap.toArray] [aB 158 1 v l.length (l.map df),X]
   (fun r H=>H=[aB 158 1 r (l.filter fun x => !p x).length ((l.filter fun x => !p x).map df),X]):=by
 refine au.ak Tryz.func245 Tryz.ntmps245 fun G F R hE=>?_
 refine db 0 rfl ?_
 rintro a0 c rfl
 refine go ?_
 refine dH 0 rfl ?_
 intro hv
 refine cg [0,1] zr zr zr zr (sA _ X _ l hv hlen g cap p hf) rfl jk ?_
 rintro _ _⟨rfl,rfl⟩
 refine go ?_
 refine aq zr zr ?_ ?_
 ·intro h0
  have lC:l.any p=false:=jQ.1 ai
  have sM:(l.filter fun x => !p x)=l:=List.filter_eq_self.2 fun x hx=>by
   grind
  rw[sM]at hE
  refine go ?_
  refine aK hE Tryz.func245 rfl _ zr zr (ao.fin [0,1] 0 zr zr)
 ·intro h0
  obtain⟨i0,x0,Ea,YQ,Fs,zz⟩:=qB h0
  have acg:i0<l.length:=by
   grind
  rw[Ea]
  refine go ?_
  refine qO (fun a mU hn _=>by omega) ?_
  rintro b o c' pre junk sI j8 hnc fY mX
  simp only[Value.slice.injEq,true_and]at sI
  obtain⟨rfl,rfl⟩:=sI
  have h1:l.take (i0+1)=l.take i0++[x0]:=by rw[List.take_add_one,YQ];rfl
  have Ec:(l.take i0).filter (fun x => !p x)=l.take i0:=List.filter_eq_self.2 fun x hx=>by simp[zz x hx]
  refine bj (fun s:Nat × Nat × List Tk=>s.1<s.2.1∧s.2.1≤l.length∧s.2.2.length=l.length∧s.2.2.take s.1=(l.take s.2.1).filter (fun x => !p x)∧s.2.2.drop s.2.1=l.drop s.2.1) (fun s=>l.length-s.2.1)
   (fun s=>[(0,.slice (some ⟨b,o,none⟩) l.length c),(1,.func (.func g) #[] cap.toArray),(5,.int .i64 s.1),(6,.int .i64 s.2.1)])
   (fun s=>ae b (cl (pre++s.2.2.map df++junk) 158)::X::F) (i0,i0+1,l) ⟨by simp,by simp only;omega,rfl,by simp only[h1,List.filter_append,Ec];simp[Fs],rfl⟩ rfl bS (ao.refl _) ?_
  rintro⟨i,j,E⟩⟨Jn,KK,Ed,uD,HB⟩ ih
  simp only at Jn KK Ed uD HB
  have ir:(E.map df).length=l.length:=by rw[List.length_map,Ed]
  have hvE:Vw (ae b (cl (pre++E.map df++junk) 158)) (.slice (some ⟨b,o,none⟩) l.length c) l.length (E.map df):=Vw.ae (by rw[List.append_assoc,← j8,List.drop_left,List.take_left])
  refine go ?_
  refine aq zr zr ?_ ?_
  ·intro cL
   simp only at cL
   have p8:j<l.length:=by omega
   obtain⟨x,hx⟩:∃x,l[j]?=some x:=⟨l[j],by simp[p8]⟩
   have hEx:E[j]?=some x:=by
    have:=congrArg (·[0]?) HB
    grind
   have eR:=List.mem_of_getElem? hx
   have PA:=hf _ eR
   refine go ?_
   refine bp j zr zr zr zr zr zr zr zr p8 ?_
   refine aP ?_
   refine aQ 0 j zr zr zr hvE rfl (rh hEx) zr zr (go ?_)
   refine cg [1] zr zr zr zr (PA) rfl jk ?_
   rintro _ _⟨rfl,rfl⟩
   refine go ?_
   refine dY zr zr ?_ ?_
   ·intro hp
    have qX:p x=false:=by simpa using hp
    refine go ?_
    refine bp i zr zr zr zr zr zr zr zr ai ?_
    refine lr (U:=aU) (l':=pre++(E.set i x).map df++junk) 1 e8 zr zr zr zr zr zr zr ?_ ?_ rfl ?_
    ·show o+i+1≤_
     rw[List.length_append,List.length_append,ir];omega
    ·show _=List.take (o+i) (pre++E.map df++junk)++[df x]++List.drop (o+i+1) (pre++E.map df++junk)
     have hs:=qp pre (E.map df) junk [df x] i (by rw[ir];simp only[List.length_singleton];omega)
     rw[← j8]
     simp only[List.length_singleton]at hs
     rw[hs,List.map_set,List.set_eq_take_append_cons_drop,if_pos (by rw[ir];omega)]
     simp
    refine go ?_
    refine aM ih (i+1,j+1,E.set i x) rfl ⟨by simp only;omega,by simp only;omega,by simp only[List.length_set];exact Ed,?_,?_⟩ (by simp only;omega) bS ag
    ·simp only
     rw[List.take_add_one,List.take_set_of_le (Nat.le_refl i),uD,List.take_add_one (l:=l),hx,List.getElem?_set_self ai]
     simp[List.filter_append,qX]
    ·simp only
     rw[List.drop_set_of_lt ai,← List.drop_drop,HB,List.drop_drop]
   ·intro hp
    have qX:p x=true:=by simpa using hp
    refine go ?_
    refine aM ih (i,j+1,E) rfl ⟨by simp only;omega,by simp only;omega,Ed,by simp only;rw[uD,List.take_add_one,hx];simp[List.filter_append,qX],by simp only;rw[← List.drop_drop,HB,List.drop_drop]⟩ (by simp only;omega) bS ag
  ·intro ep
   refine go ?_
   simp only at ep
   have QX:j=l.length:=by omega
   subst QX
   rw[List.take_length]at uD
   have wG:(l.filter fun x => !p x).length=i:=by rw[← uD,List.length_take];omega
   refine iH zr zr zr zr zr zr zr ai ai (.inl rfl) ?_
   intro o1 Hi KJ
   simp only[Int.toNat_natCast]at Hi KJ
   have CM:i≠c→o1=o+i:=fun h=>by have h2:o1=o+i*1:=Hi h;omega
   have hL:(pre++E.map df++junk).length=o+l.length+junk.length:=by rw[List.length_append,List.length_append,ir,j8]
   obtain⟨k7,CS,ab9⟩:∃k7,(pre++E.map df++junk).take o1++(List.replicate (((l.length:Int).toNat-(i:Int).toNat)) [Value.pointer none]).flatten++(pre++E.map df++junk).drop (o1+((l.length:Int).toNat-(i:Int).toNat)*1)=pre++(E.take i).map df++k7∧c*1≤i*1+k7.length:=by
    have MX:i≠c:=by omega
    rw[CM MX,← j8,List.append_assoc pre,List.take_length_add_append,List.take_append_of_le_length (by rw[ir];omega),List.map_take]
    grind [iZ]
   refine vo (U:=aU) (l':=pre++(E.take i).map df++k7) 0 e8 zr zr zr zr zr zr zr zr ?_ ?_ rfl ?_
   ·have MX:i≠c:=by omega
    show o1+((l.length:Int).toNat-(i:Int).toNat)*1≤_
    rw[CM MX,hL];omega
   ·rw[← CS];rfl
   refine go ?_
   refine iH zr zr zr zr zr zr zr ai ai (.inr ai) ?_
   intro o2 ho3 ho4
   have MO:o2=o:=by
    grind
   subst MO
   refine go ?_
   refine al (gq (sz:=1) (nn:=i) (c:=c) j8 ai (by rw[List.length_map,List.length_take,Nat.min_eq_left ai];omega) (by rw[List.length_map,List.length_take];omega) _) ?_
   rw[← uD,uD,wG,← uD]at hE
   refine aK hE Tryz.func245 rfl _ zr zr (ao.fin [0,1] 0 zr zr)
def Cc(ts:List Tk)(d:Dg)(bx:Nat)(y:Tk)(hy:y∈ts):au Tryz.prog 246 [ptr y.yb,ptr bx] [Sep [bC ts,ae bx (cl (dC d) 32)] ] (fun r H=>r = .bool (decide (y.x.d=d))∧H=[Sep [bC ts,ae bx (cl (dC d) 32)] ]):=by
 obtain⟨i,hi⟩:=List.mem_iff_getElem?.1 hy
 refine au.ak Tryz.func246 Tryz.ntmps246 fun G F R hE=>?_
 refine al (ao.bY [_,_] _) ?_
 refine al (rf hi _) ?_
 refine cX (hD y) ?_
 rintro z hz
 refine al (H':=ae y.yb (cl (ri y) 163)::ae bx (cl (dC d) 32)::ae y.sb (cl [.int .i64 (y.n:Int),z.1] 376)::aB 46 1 z.1 y.ws.length (qV y.ws)::aI (Value.int .i64) y.mb z.2.1::a7 32 z.2.2::bC (ts.take i++ts.drop (i+1))::F) ag (go ?_)
 refine aL (fun w=>Sat G w ([ae y.yb (cl (ri y) 163),ae bx (cl (dC d) 32)])) (cJ 0 8 .nil) rfl ah ah ah dv ?_
 refine go ?_
 refine cC (U:=aU) 0 zr zr zr zr zr zr (go ?_)
 refine bX (U:=aU) (l:=dC d) 1 zr zr zr zr zr zr (go ?_)
 refine gQ (b:=decide (y.x.d=d)) zr zr zr yq (fun w=>yu y.x.d d w) ?_
 refine go ?_
 refine al (H':=uW y z++(bC (ts.take i++ts.drop (i+1))::ae bx (cl (dC d) 32)::F)) (by unfold uW;exact ag) ?_
 refine al (jY hz _) ?_
 refine al (q9 hi _) ?_
 refine al (ao.bK [_,_] _) ?_
 refine ad hE Tryz.func246 zr zr ⟨rfl,rfl⟩
end Go.Proofs.YtlcoaflddajjcaaGreatDoor
namespace Go.Proofs.YtlcoaflddajjcaaGreatDoor
open Go Go.SL
def qo(q:Tk→Bool):∀(ts:List Tk) (H:List HP),ao (bC ts::H) (bC (ts.filter q)::H)
 | [],H=>ao.refl _
 | y::ts,H=>by
  have h1:ao (bC (y::ts)::H) (qa y::bC ts::H):=Aj [] ts y H
  by_cases hq:q y=true
  ·rw[List.filter_cons_of_pos hq]
   have h2:ao (qa y::bC (ts.filter q)::H) (bC (y::ts.filter q)::H):=sT [] (ts.filter q) y H
   exact h1.trans ((ao.cons _ (qo q ts H)).trans h2)
  ·rw[List.filter_cons_of_neg hq]
   exact h1.trans ((ao.drop _ _).trans (qo q ts H))
def OM(ts:List Tk)(d:Dg):List Tk:=ts.filter fun y => !decide (y.x.d=d)
attribute [local irreducible] J K au Ends ae aB aI bB aW aS a7 aX bF aC
def EL(tb bs jb:Nat)(tv:Value)(br:Bool)(ts:List Tk)(d:Dg)(hl:ts.length≤1000000):au Tryz.prog 129 [ptr tb,dV d] (fq tb bs jb tv ts br)
  (fun r H=>r = .tuple #[]∧∃qW,H=fq tb bs jb qW (OM ts d) br):=by
 refine au.ak Tryz.func129 Tryz.ntmps129 fun G F R hE=>?_
 refine db 1 rfl ?_
 rintro a c rfl
 refine aD rfl ?_
 refine bu zr zr bh ?_
 intro b3
 refine go ?_
 refine aN (ao.pick [1,2,3] rfl) ?_
 refine aN (ao.cons _ (ao.cons _ (ao.bK [_,_] _))) (go ?_)
 refine aF (yH _ ts _ 246 [ptr b3] (fun y=>decide (y.x.d=d)) hl (fun y hy=>Cc ts d b3 y hy)) ?_
 rintro r _ rfl
 refine aH 0 rfl ?_
 rintro a2 c2 rfl
 refine go ?_
 refine al (ao.pick [1,2] rfl) ?_
 refine al (ao.bY [_,_] _) ?_
 refine al (qo (fun y => !decide (y.x.d=d)) ts _) ?_
 refine bL hE Tryz.func129 rfl _ rfl ⟨rfl,_,rfl⟩ ag
end Go.Proofs.YtlcoaflddajjcaaGreatDoor
namespace Go.Proofs.YtlcoaflddajjcaaGreatDoor
open Go Go.SL
def da(bs bd jb:Nat)(q:Int)(mb:Nat)(Xs:List HP)(x:SJ):HP:=Sep (jo bs bd q mb x.1++(kx jb bd gm x.2::Xs))
def Ej(l:List HP):ao [Sep l] l:=by have:=ao.bY l [];rwa[List.append_nil]at this
def EJ(l:List HP):ao l [Sep l]:=by have:=ao.bK l [];rwa[List.append_nil]at this
def SQ(m:Nat)(i:Nat)(y:SJ):Prop:=0≤y.2.n∧(0≤y.2.s∧y.2.s≤1000000)∧y.1.A.aV.length≤m+10*i∧y.1.A.writes.length≤m+10*i
theorem SQ.append{m i:Nat}{x y:SJ}{b:List UInt8}{e:Nat}(h:SQ m i x)(hS:vQ b x e y):SQ m (i+1) y:=by
 obtain⟨h1,h2⟩:=hS
 grind [Bd,gm,SQ,eP]
attribute [local irreducible] J K au Ends ae aB aI bB aW aS a7 aX bF aC
def IU(tb bs jb bd b2 b3:Nat)(tv:Value)(q:Int)(mb:Nat)(x:SJ)(Z:HP)(Ys:List HP)(a:Option Addr)(c:Nat)(b:List UInt8)(hb:ew Z (.slice a b.length c) b)(hl:b.length≤1000000)(hs:0≤x.2.s∧x.2.s≤1000000000)(ir:x.1.A.writes.length≤1000000000) :
  au Tryz.prog 367 [ptr b2,ptr b3] [sF tb bs jb tv false,da bs bd jb q mb (ae b2 (cl [ptr tb] 92)::ae b3 (cl [.slice a b.length c] 22)::Z::Ys) x]
  (fun r H=>∃(e:Nat) (x':SJ),r = .int .i64 (e:Int)∧H=[sF tb bs jb tv false,da bs bd jb q mb (ae b2 (cl [ptr tb] 92)::ae b3 (cl [.slice a b.length c] 22)::Z::Ys) x']∧vQ b x e x'):=by
 have c0:=au.frame ([ae bs (cl (dg bd q mb x.1.brk) 146),aI dV mb (du x.1.cq)]++Ys) (E2 tb bs jb bd b2 b3 tv x.1.A x.2 Z a c b hb ai hs ir)
 refine c0.conv ?_ ?_
 ·unfold da jo
  exact(ao.cons _ (Ej _)).trans ag
 ·rintro v H⟨H',⟨rfl,rfl⟩,rfl⟩
  refine⟨[sF tb bs jb tv false,da bs bd jb q mb _ (⟨(eP gm x.1.A x.2 b).2.1,x.1.cq,x.1.brk⟩,(eP gm x.1.A x.2 b).2.2)],⟨_,_,rfl,rfl,rfl,rfl⟩,?_⟩
  unfold da jo
  exact ao.trans ag (ao.cons _ (EJ _))
def C8(tb bs jb bd:Nat)(tv:Value)(q:Int)(mb:Nat)(x:SJ)(Xs:List HP)(hn:0≤x.2.n)(hs:0≤x.2.s∧x.2.s≤1000000000)(dK:x.1.A.aV.length≤900000000)(xV:x.1.A.writes.length≤900000000) :
  au Tryz.prog 369 [ptr jb] [sF tb bs jb tv false,da bs bd jb q mb Xs x]
  (fun r H=>∃(e:Nat) (x':SJ),r = .int .i64 (e:Int)∧H=[sF tb bs jb tv false,da bs bd jb q mb Xs x']∧BY x e x'):=by
 have c0:=au.frame ([sF tb bs jb tv false,ae bs (cl (dg bd q mb x.1.brk) 146),aI dV mb (du x.1.cq)]++Xs) (Gw jb bd gm x.1.A x.2 hn hs dK xV)
 refine c0.conv ?_ ?_
 ·unfold da jo
  exact(ao.cons _ (Ej _)).trans ag
 ·rintro v H⟨H',⟨e,A',x',rfl,rfl,hC⟩,rfl⟩
  refine⟨[sF tb bs jb tv false,da bs bd jb q mb _ (⟨A',x.1.cq,x.1.brk⟩,x')],⟨e,_,rfl,rfl,A',x',hC,rfl⟩,?_⟩
  unfold da jo
  exact ao.trans ag (ao.cons _ (EJ _))
end Go.Proofs.YtlcoaflddajjcaaGreatDoor
namespace Go.Proofs.YtlcoaflddajjcaaGreatDoor
open Go Go.SL
def ZU(bs bd jb:Nat)(q:Int)(mb:Nat)(Xs:List HP)(x:SJ)(F:List HP):ao (da bs bd jb q mb [] x::(Xs++F)) (da bs bd jb q mb Xs x::F):=by
 refine(ao.bY _ _).trans ?_
 have h:jo bs bd q mb x.1++[kx jb bd gm x.2]++(Xs++F)=(jo bs bd q mb x.1++(kx jb bd gm x.2::Xs))++F:=by simp
 rw[h]
 exact ao.bK _ _
def Qf(bs bd jb:Nat)(q:Int)(mb:Nat)(Xs:List HP)(x:SJ)(F:List HP):ao (da bs bd jb q mb Xs x::F) (da bs bd jb q mb [] x::(Xs++F)):=by
 refine(ao.bY _ _).trans ?_
 have h:(jo bs bd q mb x.1++(kx jb bd gm x.2::Xs))++F=jo bs bd q mb x.1++[kx jb bd gm x.2]++(Xs++F):=by simp
 rw[h]
 exact ao.bK _ _
attribute [local irreducible] J K au Ends ae aB aI bB aW aS a7 aX bF aC da
end Go.Proofs.YtlcoaflddajjcaaGreatDoor
namespace Go.Proofs.YtlcoaflddajjcaaGreatDoor
open Go Go.SL
attribute [local irreducible] J K au Ends ae aB aI bB aW aS a7 aX bF aC
def eO(s:ml)(x:Bl)(i:Int):List UInt8 × Nat:=if wi s.cq x then(match rp x i with
 | none=>([],1)
 | some (a,n)=>s.A.read (eS kS x.d) a n)else([],4)
def F9(bs bd:Nat)(q:Int)(mb:Nat)(s:ml)(x:Bl)(i:Int):au Tryz.prog 143 [ptr bs,jU x,.int .i64 i] (jo bs bd q mb s)
  (fun r H=>∃rv,r = .tuple #[rv,.int .i64 ((eO s x i).2:Int)]∧H=aB 5 1 rv (eO s x i).1.length (bV (eO s x i).1)::jo bs bd q mb s):=by
 obtain⟨A,cq,brk⟩:=s
 have ho:=L3 bs bd q mb brk cq x
 have Hc:=Dw x i
 have hf:=oX kS x.d (by decide)
 unfold jU dV at *
 unfold jo
 dsimp only
 refine au.ak Tryz.func143 Tryz.ntmps143 fun G F R hE=>?_
 refine aD rfl ?_
 refine bu zr zr bh ?_
 intro b4
 refine go ?_
 refine aO (U:=aU) (l:=ck x) 0 zr zr zr zr zr zr ?_
 refine aw ho ?_
 cases hh:wi cq x with
 | false =>
  have h1:eO ⟨A,cq,brk⟩ x i=([],4):=by unfold eO;rw[if_neg (by simp[hh])]
  rw[h1]at hE
  refine go ?_
  refine al (bg 5 1 none _) ?_
  refine al (H':=aB 5 1 (.slice none 0 0) 0 []::ae bs (cl (dg bd q mb brk) 146)::aI dV mb (du cq)::aC bd A::F) ag ?_
  refine ad hE Tryz.func143 zr zr ⟨_,rfl,rfl⟩
 | true =>
  refine go ?_
  refine aO (U:=aU) (l:=ck x) 2 zr zr zr zr zr zr ?_
  ((refine go ?_;(refine aF Hc ?_)))
  rintro _ _⟨rfl,rfl⟩
  cases hs:rp x i with
  | none =>
   have h1:eO ⟨A,cq,brk⟩ x i=([],1):=by unfold eO;rw[if_pos (by simp[hh]),hs]
   rw[h1]at hE
   refine go ?_
   refine al (bg 5 1 none _) ?_
   refine al (H':=aB 5 1 (.slice none 0 0) 0 []::ae bs (cl (dg bd q mb brk) 146)::aI dV mb (du cq)::aC bd A::F) ag ?_
   refine ad hE Tryz.func143 zr zr ⟨_,rfl,rfl⟩
  | some an =>
   obtain⟨a,n⟩:=an
   have h1:eO ⟨A,cq,brk⟩ x i=A.read (eS kS x.d) a n:=by unfold eO;rw[if_pos (by simp[hh]),hs]
   rw[h1]at hE
   have u4:=Bo bd A (eS kS x.d) a n
   refine go ?_
   refine al (H':=ae b4 (cl (ck x) 77)::ae bs (cl (dg bd q mb brk) 146)::aI dV mb (du cq)::aC bd A::F) ag ?_
   refine aL (fun w=>Sat G w ([ae b4 (cl (ck x) 77),ae bs (cl (dg bd q mb brk) 146)])) (cJ 0 6 (.st 7 (.st 8 (.act 6 (.act 9 (cJ 10 4 .nil)))))) rfl ah ah ah dv ?_
   refine go ?_
   refine cC (U:=aU) 0 zr zr zr zr zr zr (go ?_)
   refine bE hf ?_
   refine go ?_
   ((refine de zr zr zr zr (u4) ag ?_ (fun _ _ w hp hw=>by obtain⟨r,rfl,rfl⟩:=hp;exact hw.cu ag)))
   rintro _ _⟨r,rfl,rfl⟩
   refine go ?_
   refine al (H':=aB 5 1 r (A.read (eS kS x.d) a n).1.length (bV (A.read (eS kS x.d) a n).1)::ae bs (cl (dg bd q mb brk) 146)::aI dV mb (du cq)::aC bd A::F) ag ?_
   refine ad hE Tryz.func143 zr zr ⟨_,rfl,rfl⟩
end Go.Proofs.YtlcoaflddajjcaaGreatDoor
