import Derived.Test.YtnkfkabokmcgoaaGreatDoorQNQ2
import Derived.Test.YtnkfkabokmcgoaaGreatDoorQNQ3
import Derived.Test.YtnkfkabokmcgoaaGreatDoorQNQ4
import Derived.Test.YtnkfkabokmcgoaaGreatDoorQNQ5
import Derived.Test.YtnkfkabokmcgoaaGreatDoorQNQ7
import Derived.Test.YtnkfkabokmcgoaaGreatDoorQNQ8
set_option linter.unusedSimpArgs false
set_option linter.unusedVariables false
set_option maxHeartbeats 1000000
set_option maxRecDepth 20000
set_option linter.defProp false
namespace Go.Proofs.YtnkfkabokmcgoaaGreatDoor
open Go Go.SL
variable{ws:List mW}{i:Nat}
def Ec(k:Nat):mW:=(1#64) <<< k
def p9(ws:List mW)(n:Nat)(i:Int):Bool:=decide (0≤i∧i<n) && decide (((ws.getD (i.toNat/64) 0#64) >>> (i.toNat%64)) &&& 1#64=1#64)
def lW(ws:List mW)(i:Nat)(one:Bool):List mW:=ws.set (i/64) (if one then ws.getD (i/64) 0#64 ||| Ec (i%64)else ws.getD (i/64) 0#64 &&& ~~~(Ec (i%64)))
def lu(ws:List mW)(i:Nat)(one:Bool):(lW ws i one).length=ws.length:=by simp[lW]
theorem Kz{n:Nat}{i:Int}(h:i<0∨(n:Int)≤i):p9 ws n i=false:=by
 grind [p9]
def kM(sb n:Nat)(wv:Value)(ws:List mW):List HP:=[ag sb (cl [.int .i64 (n:Int),wv] 307),aI 43 1 wv ws.length (qV ws)]
structure Tk where
 yb:Nat
 sb:Nat
 mb:Nat
 x:Bl
 n:Nat
 ws:List mW
 pf:Int→Option (List Dg)
def FF(z:Value × List (Int × Value) × eV)(y:Tk):Prop:=∀k,match cw z.2.1 k with
 | none=>y.pf k=none
 | some v=>∃l,y.pf k=some l∧zY z.2.2 32 v l.length (l.flatMap dC)
def sK(y:Tk):List Value:=dY y.x++[ptr y.sb,.map (some y.mb)]
def Aa(y:Tk)(z:Value × List (Int × Value) × eV):List HP:=[ag y.yb (cl (sK y) 138),ag y.sb (cl [.int .i64 (y.n:Int),z.1] 307),aI 43 1 z.1 y.ws.length (qV y.ws),aC (Value.int .i64) y.mb z.2.1,a6 36 z.2.2]
def oM(y:Tk):HP:=fun h=>∃z:Value × List (Int × Value) × eV,FF z y∧Sep (Aa y z) h
def iY(y:Tk):∀h,oM y h→∃z:Value × List (Int × Value) × eV,FF z y∧Sep (Aa y z) h:=fun h hs=>hs
def lQ{y:Tk}{z:Value × List (Int × Value) × eV}(hR:FF z y)(H:List HP):ao (Aa y z++H) (oM y::H) :=
 ao.fold (B:=Aa y z) fun h hp=>⟨h,sub.refl h,z,hR,hp⟩
theorem FF.put{z:Value × List (Int × Value) × eV}{y:Tk}(h:FF z y)(k:Int)(v wv:Value)(l:List Dg)(M:eV)(hM:∀a∈z.2.2,a∈M)(hv:zY M 32 v l.length (l.flatMap dC))(y':Tk)(hy:y'.pf=fun j=>if j=k then some l else y.pf j):FF (wv,iy z.2.1 k v,M) y':=fun j=>by
 rw[hy]
 simp only
 rw[Eg]
 by_cases hj:j=k
 ·grind
 ·rw[if_neg hj,if_neg hj]
  have:=h j
  cases hx:cw z.2.1 j with
  | none=>rw[hx]at this;exact this
  | some u =>
   rw[hx]at this
   obtain⟨l',h1,h2⟩:=this
   exact⟨l',h1,h2.mono hM⟩
def bZ(ts:List Tk):HP:=Sep (ts.map oM)
def EM(H:List HP):ao H (bZ []::H):=ao.jw H
def ys(a b:List Tk)(y:Tk)(H:List HP):ao (bZ (a++y::b)::H) (oM y::bZ (a++b)::H):=by
 unfold bZ
 rw[List.map_append,List.map_cons,List.map_append]
 refine(ao.cX _ _).trans ((ao.perm (H':=oM y::((a.map oM++b.map oM)++H)) ?_).trans (ao.cons _ (ao.cd _ _)))
 simp_all
def tz(a b:List Tk)(y:Tk)(H:List HP):ao (oM y::bZ (a++b)::H) (bZ (a++y::b)::H):=by
 unfold bZ
 rw[List.map_append,List.map_append,List.map_cons]
 refine(ao.cons _ (ao.cX _ _)).trans ((ao.perm (H':=(a.map oM++oM y::b.map oM)++H) ?_).trans (ao.cd _ _))
 rw[List.append_assoc,List.append_assoc,List.cons_append]
 exact List.perm_middle.symm
def IU{ts:List Tk}{y:Tk}(h:ts[i]?=some y):ts=ts.take i++y::ts.drop (i+1):=by
 obtain⟨hi,rfl⟩:=List.getElem?_eq_some_iff.1 h
 simp_all
def yu{ts:List Tk}{y:Tk}(h:ts[i]?=some y)(H:List HP):ao (bZ ts::H) (oM y::bZ (ts.take i++ts.drop (i+1))::H):=by
 have:=ys (ts.take i) (ts.drop (i+1)) y H
 rwa[← IU h]at this
def L8{ts:List Tk}{y:Tk}(h:ts[i]?=some y)(y':Tk)(H:List HP):ao (oM y'::bZ (ts.take i++ts.drop (i+1))::H) (bZ (ts.set i y')::H):=by
 have hi:=(List.getElem?_eq_some_iff.1 h).1
 rw[List.set_eq_take_append_cons_drop,if_pos hi]
 exact tz (ts.take i) (ts.drop (i+1)) y' H
def EL{ts:List Tk}{y:Tk}(h:ts[i]?=some y)(H:List HP):ao (oM y::bZ (ts.take i++ts.drop (i+1))::H) (bZ ts::H):=by
 have:=tz (ts.take i) (ts.drop (i+1)) y H
 rwa[← IU h]at this
def eK(y:Tk):Value:=ptr y.yb
def ff(tb bs jb:Nat)(v:Value)(ts:List Tk)(br:Bool):List HP:=[ag tb (cl [ptr bs,ptr jb,v,.bool br] 131),aI 133 1 v ts.length (ts.map eK),bZ ts]
def pJ{ts:List Tk}{y:Tk}(h:ts[i]?=some y):(ts.map eK)[i]?=some (ptr y.yb):=by rw[List.getElem?_map,h];rfl
def mS:ByteArray:=strOf [112,105,101,99,101,115]
def nL(k:List UInt8)(d:Dg):dg k d≠mS:=fun h=>by
 have h1:=congrArg (fun s:ByteArray=>s.data.toList.length) h
 simp only[dg,mS,strOf,List.length_append,lk]at h1
 simp at h1
def Ds{A:Ab}(h:HA A)(n:ByteArray):n∈ed A↔(vw A n).isSome=true:=by
 rw[(rR A).mem_iff]
 exact mem_keys h n
def uw:isName mS=true:=by decide +kernel
def rX:isName (bO mS)=true:=by decide +kernel
def yK:bO mS≠mS:=by decide +kernel
abbrev SJ:=mI × JN
attribute [local irreducible] J K aq Ends ag aI aC bF aW aP a6 aZ bN
theorem Ha{n j:Nat}{w:mW}(hj:j<n)(hw:ws[j/64]?=some w):decide ((((w >>> (j%64)) &&& 1#64).toNat:Int)=1)=p9 ws n (j:Int):=by
 unfold p9
 rw[decide_eq_true (show 0≤(j:Int)∧(j:Int)<n by omega),Bool.true_and,Int.toNat_natCast,List.getD_eq_getElem?_getD,hw,Option.getD_some,decide_eq_decide]
 constructor
 ·intro h
  apply BitVec.eq_of_toNat_eq
  grind
 grind
abbrev orW(p q:mW):mW:=p ||| q
theorem aaj(p:mW):IntKind.u64.wrap ((BitVec.ofInt IntKind.u64.bits (p.toNat:Int) &&& BitVec.ofInt IntKind.u64.bits 1).toNat:Int)=((p &&& 1#64).toNat:Int):=by
 grind [nv,mX]
def aaH(p q:mW):IntKind.u64.wrap ((BitVec.ofInt IntKind.u64.bits (p.toNat:Int) ||| BitVec.ofInt IntKind.u64.bits (q.toNat:Int)).toNat:Int)=((p ||| q).toNat:Int):=by
 rw[nv,nv]
 exact mX (p ||| q)
def K0(p q:mW):IntKind.u64.wrap ((BitVec.ofInt IntKind.u64.bits (p.toNat:Int) &&& ~~~ BitVec.ofInt IntKind.u64.bits (q.toNat:Int)).toNat:Int)=((p &&& ~~~q).toNat:Int):=by
 rw[nv,nv]
 exact mX (p &&& ~~~q)
def qNe(h:i<ws.length):qV ws≠[]:=fun e=>by have:=congrArg List.length e;rw[U6]at this;rw[this]at h;simp at h
def vD(sb n:Nat)(wv:Value):aq Tryz.prog 139 [ptr sb] [ag sb (cl [.int .i64 (n:Int),wv] 307)] (fun r H=>r = .int .i64 (n:Int)∧H=[ag sb (cl [.int .i64 (n:Int),wv] 307)]):=by
 refine aq.aj Tryz.func139 Tryz.ntmps139 fun G F R hE=>?_
 refine go ?_
 refine ad hE Tryz.func139 zr zr ⟨rfl,rfl⟩
def LN(sb n:Nat)(wv:Value)(ws:List mW)(hn:n≤65536)(hw:n≤ws.length*64)(i:Int):aq Tryz.prog 140 [ptr sb,.int .i64 i] (kM sb n wv ws) (fun r H=>r = .bool (p9 ws n i)∧H=kM sb n wv ws):=by
 unfold kM
 by_cases hi:0≤i∧i<(n:Int)
 case neg =>
  rw[Kz ai]
  refine aq.aj Tryz.func140 Tryz.ntmps140 fun G F R hE=>?_
  by_cases h0:0≤i
  ·refine go ?_
   refine aD 7 ((.bool true)) rfl ((congrArg Value.bool (decide_eq_true ai))) (go ?_)
   refine aD 15 ((.bool false)) rfl ((congrArg Value.bool (decide_eq_false ai))) (go ?_)
   refine ad hE Tryz.func140 zr zr ⟨rfl,rfl⟩
  ·refine go ?_
   refine aD 7 ((.bool false)) rfl ((congrArg Value.bool (decide_eq_false ai))) (go ?_)
   refine ad hE Tryz.func140 zr zr ⟨rfl,rfl⟩
 obtain⟨j,rfl⟩:∃j:Nat,i=j:=⟨i.toNat,ai⟩
 have Fh:j/64<ws.length:=by omega
 obtain⟨w,WL⟩:∃w,ws[j/64]?=some w:=⟨ws[j/64],by simp[Fh]⟩
 have cG:=Jl WL
 refine aq.aj Tryz.func140 Tryz.ntmps140 fun G F R hE=>?_
 refine cL 1 rfl ?_
 rintro a c rfl
 refine eu 1 rfl ?_
 intro dt
 obtain⟨b,o,eX,dW⟩:=dt.some (qNe Fh)
 simp only[Value.slice.injEq]at dW
 obtain⟨rfl,_,rfl⟩:=dW
 refine go ?_
 refine aD 7 ((.bool true)) rfl ((congrArg Value.bool (decide_eq_true ai))) (go ?_)
 refine aD 15 ((.bool true)) rfl ((congrArg Value.bool (decide_eq_true ai))) (go ?_)
 refine sx zr zr zr ai ai (by simp only[gm];omega) ?_
 refine aD 21 ((.int .i64 ((j/64:Nat):Int))) rfl ((congrArg (Value.int .i64) ai)) (go ?_)
 refine bC (j/64) zr zr zr zr zr zr zr zr Fh (go ?_)
 refine aT ?_
 refine aN 1 (j/64) zr zr zr dt rfl cG zr zr (go ?_)
 refine sw zr zr zr ai ai ?_
 refine aD 25 ((.int .i64 ((j%64:Nat):Int))) rfl ((congrArg (Value.int .i64) ai)) (go ?_)
 refine Lq (p:=w) (j%64) zr zr zr zr ai (go ?_)
 ((refine aV 4 ((.bool (p9 ws n (j:Int)))) rfl ((congrArg Value.bool (by rw[aaj];exact Ha ai WL))) ?_))
 refine ad hE Tryz.func140 zr zr ⟨rfl,rfl⟩
def LM(n:Nat)(hn:n≤65536):aq Tryz.prog 197 [.int .i64 (n:Int)] [] (fun r H=>∃sb wv,r = .tuple #[ptr sb,.int .i64 0]∧H=kM sb n wv (List.replicate ((n+63)/64) 0#64)):=by
 refine aq.aj Tryz.func197 Tryz.ntmps197 fun G F R hE=>?_
 refine go ?_
 refine aV 6 ((.bool false)) rfl ((congrArg Value.bool (decide_eq_false ai))) (go ?_)
 refine aV 9 ((.bool false)) rfl ((congrArg Value.bool (decide_eq_false ai))) (go ?_)
 refine sx zr zr zr ai ai (by simp only[gm];omega) ?_
 refine aD 14 ((.int .i64 (((n+63)/64:Nat):Int))) rfl ((congrArg (Value.int .i64) ai)) (go ?_)
 refine gD (p:=(n+63)/64) (q:=(n+63)/64) zr zr zr zr zr zr zr zr zr (Nat.le_refl _) ai (by show 8*_≤_;omega) bh ?_
 intro row
 refine go ?_
 refine bp zr zr bh ?_
 intro sb
 refine go ?_
 refine ak (H':=kM sb n (.slice (some ⟨row,0,none⟩) ((n+63)/64) ((n+63)/64)) (List.replicate ((n+63)/64) 0#64)++F) ?_ ?_
 ·have hq:qV (List.replicate ((n+63)/64) 0#64)=List.replicate ((n+63)/64) (.int .u64 0):=by simp[qV,L6]
  unfold kM
  rw[hq,List.length_replicate]
  refine ao.trans (H2:=ag row (cl (List.replicate ((n+63)/64) (.int .u64 0)) 43)::ag sb (cl [.int .i64 (n:Int),.slice (some ⟨row,0,none⟩) ((n+63)/64) ((n+63)/64)] 307)::F) ah ?_
  refine ao.trans (H2:=ag row (cl (List.replicate ((n+63)/64) (.int .u64 0)++[]) 43)::ag sb (cl [.int .i64 (n:Int),.slice (some ⟨row,0,none⟩) ((n+63)/64) ((n+63)/64)] 307)::F) (by rw[List.append_nil];exact ao.refl _) ?_
  refine(eL 43 1 row ((n+63)/64) ((n+63)/64) (List.replicate ((n+63)/64) (.int .u64 0)) [] _ (by simp) (Nat.le_refl _) (by simp)).trans ?_
  exact ao.perm (List.Perm.swap ..)
 ·refine ad hE Tryz.func197 zr zr ⟨_,_,rfl,rfl⟩
def Mq(ws:List mW)(i:Nat)(w:mW)(hw:ws[i/64]?=some w):(qV ws).set (i/64) (.int .u64 ((orW w (Ec (i%64))).toNat:Int))=qV (lW ws i true):=by
 unfold lW
 rw[if_pos rfl,List.getD_eq_getElem?_getD,hw,Option.getD_some]
 exact Jk ws (i/64) _
def Jn(ws:List mW)(i:Nat)(w:mW)(hw:ws[i/64]?=some w):(qV ws).set (i/64) (.int .u64 ((w &&& ~~~(Ec (i%64))).toNat:Int))=qV (lW ws i false):=by
 unfold lW
 rw[if_neg (by simp),List.getD_eq_getElem?_getD,hw,Option.getD_some]
 exact Jk ws (i/64) _
def Ic(sb n:Nat)(wv:Value)(ws:List mW)(hn:n≤65536)(hw:n≤ws.length*64)(i:Nat)(hi:i<n)(one:Bool):aq Tryz.prog 198 [ptr sb,.int .i64 (i:Int),.int .i64 ((i:Int)+1),.bool one] (kM sb n wv ws) (fun r H=>r = .int .i64 0∧H=kM sb n wv (lW ws i one)):=by
 have ko:i/64<ws.length:=by omega
 obtain⟨w,WL⟩:∃w,ws[i/64]?=some w:=⟨ws[i/64],by simp[ko]⟩
 have cG:=Jl WL
 unfold kM
 rw[lu]
 refine aq.aj Tryz.func198 Tryz.ntmps198 fun G F R hE=>?_
 refine cL 1 rfl ?_
 rintro a c rfl
 refine eu 1 rfl ?_
 intro dt
 obtain⟨b,o,eX,dW⟩:=dt.some (qNe ko)
 simp only[Value.slice.injEq]at dW
 obtain⟨rfl,_,rfl⟩:=dW
 clear dt
 refine go ?_
 refine aD 14 ((.bool false)) rfl ((congrArg Value.bool (decide_eq_false ai))) (go ?_)
 refine aD 19 ((.bool false)) rfl ((congrArg Value.bool (decide_eq_false ai))) (go ?_)
 refine aV 26 ((.bool false)) rfl ((congrArg Value.bool (decide_eq_false ai))) (go ?_)
 refine bn (fun g:Nat=>g≤1) (fun g=>1-g) (fun g=>[(0,ptr sb),(1,.int .i64 ((i:Int)+(g:Int))),(2,.int .i64 ((i:Int)+1)),(3,.bool one)])
  (fun g=>ag sb (cl [.int .i64 (n:Int),.slice (some ⟨b,o,none⟩) ws.length c] 307)::aI 43 1 (.slice (some ⟨b,o,none⟩) ws.length c) ws.length (qV (if g=0 then ws else lW ws i one))::F) 0 ai rfl bQ ah ?_
 intro g hg ih
 rcases(by omega:g=0∨g=1)with rfl|rfl
 ·rw[if_pos rfl]
  refine eu 1 rfl ?_
  intro dt
  refine go ?_
  refine aV 29 ((.bool true)) rfl ((congrArg Value.bool (decide_eq_true ai))) (go ?_)
  refine sx zr zr zr ai ai (by simp only[gm];omega) ?_
  refine aD 31 ((.int .i64 ((i/64:Nat):Int))) rfl ((congrArg (Value.int .i64) ai)) (go ?_)
  refine hG zr zr zr (by simp only[gm];omega) ?_
  refine go ?_
  refine aD 40 ((.int .i64 63)) rfl ((congrArg (Value.int .i64) ai)) ?_
  refine Lq (p:=18446744073709551615#64) 63 rfl (congrArg (fun z:Int=>some (Value.int .u64 z)) (by decide:(18446744073709551615:Int)=((18446744073709551615#64).toNat:Int))) zr zr ai ?_
  refine aD 41 ((.int .u64 ((1#64).toNat:Int))) rfl ((congrArg (fun w:mW=>Value.int .u64 (w.toNat:Int)) (by decide))) ?_
  refine go ?_
  refine sw zr zr zr ai ai ?_
  refine aD 43 ((.int .i64 ((i%64:Nat):Int))) rfl ((congrArg (Value.int .i64) ai)) ?_
  refine Wy (p:=1#64) (i%64) zr zr zr zr ai ?_
  rw[show 1#64 <<< (i%64)=Ec (i%64)from rfl]
  cases one with
  | true =>
   refine go ?_
   refine bC (i/64) zr zr zr zr zr zr zr zr ko ?_
   refine aT ?_
   refine aN 1 (i/64) zr zr zr dt rfl cG zr zr (go ?_)
   refine aD 54 ((.int .u64 ((orW w (Ec (i%64))).toNat:Int))) rfl ((congrArg (Value.int .u64) (aaH w _))) ?_
   refine bC (i/64) zr zr zr zr zr zr zr zr ko ?_
   refine aY ?_
   refine gi (q:=i/64) 1 eW zr zr zr zr zr zr zr ko rfl ?_
   rw[Mq ws i w WL]
   refine go ?_
   refine aV 1 ((.int .i64 ((i:Int)+((1:Nat):Int)))) rfl ((congrArg (Value.int .i64) ai)) ?_
   refine aK ih 1 rfl ai ai bQ ah
  | false =>
   refine go ?_
   refine bC (i/64) zr zr zr zr zr zr zr zr ko ?_
   refine aT ?_
   refine aN 1 (i/64) zr zr zr dt rfl cG zr zr (go ?_)
   refine aD 64 ((.int .u64 ((w &&& ~~~(Ec (i%64))).toNat:Int))) rfl ((congrArg (Value.int .u64) (K0 w _))) ?_
   refine bC (i/64) zr zr zr zr zr zr zr zr ko ?_
   refine aY ?_
   refine gi (q:=i/64) 1 eW zr zr zr zr zr zr zr ko rfl ?_
   rw[Jn ws i w WL]
   refine go ?_
   refine aV 1 ((.int .i64 ((i:Int)+((1:Nat):Int)))) rfl ((congrArg (Value.int .i64) ai)) ?_
   refine aK ih 1 rfl ai ai bQ ah
 ·rw[if_neg ai]
  refine go ?_
  refine aV 29 ((.bool false)) rfl ((congrArg Value.bool (decide_eq_false ai))) (go ?_)
  refine ad hE Tryz.func198 zr zr ⟨rfl,rfl⟩
def Cj(sb n:Nat)(wv:Value)(ws:List mW)(hn:n≤65536)(hw:n≤ws.length*64)(i:Nat)(hi:i<n)(one:Bool):aq Tryz.prog 245 [ptr sb,.int .i64 (i:Int),.bool one] (kM sb n wv ws) (fun r H=>r = .int .i64 0∧H=kM sb n wv (lW ws i one)):=by
 have hf:=Ic sb n wv ws hn hw i hi one
 unfold kM at hf ⊢
 refine aq.aj Tryz.func245 Tryz.ntmps245 fun G F R hE=>?_
 refine go ?_
 refine aV 9 ((.bool false)) rfl ((congrArg Value.bool (decide_eq_false ai))) (go ?_)
 refine aV 16 ((.bool false)) rfl ((congrArg Value.bool (decide_eq_false ai))) (go ?_)
 refine aw hf ?_
 refine go ?_
 refine ad hE Tryz.func245 zr zr ⟨rfl,rfl⟩
attribute [local irreducible] aB
def L9{ts:List Tk}(h:i<ts.length):ts.map eK≠[]:=fun e=>by have:=congrArg List.length e;simp at this;rw[this]at h;simp at h
def zN(A X:HP)(v:Value)(l:List Tk)(hv:Vw A v l.length (l.map eK))(hlen:l.length≤1000000)(g:FuncId)(cap:List Value)(p:Tk→Bool)(hf:∀x∈l,aq Tryz.prog g (ptr x.yb::cap) [X] (fun v H=>v = .bool (p x)∧H=[X])) :
  aq Tryz.prog 323 [v,.func (.func g) #[] cap.toArray] [A,X] (fun r H=>r = .int .i64 (gQ p l)∧H=[A,X]):=by
 obtain⟨a,c0,rfl⟩:=hv.shape
 refine aq.enter Tryz.func323 ae rfl Tryz.ntmps323 zr zr ?_
 intro G F R hR
 refine go ?_
 refine bn (fun i:Nat=>i≤l.length∧∀y∈l.take i,p y=false) (fun i=>l.length-i) (fun i=>[(0,.slice a l.length c0),(1,.func (.func g) #[] cap.toArray),(7,.int .i64 l.length),(8,.int .i64 i)]) (fun _=>[A,X]++F) 0 ⟨by simp,by simp⟩ rfl bQ (ao.refl _) ?_
 rintro i⟨hi,hb⟩ ih
 refine go ?_
 refine au zr zr ?_ ?_
 ·intro cq
  refine go ?_
  have dq:i<l.length:=by omega
  obtain⟨x,hx⟩:∃x,l[i]?=some x:=⟨l[i],by simp[dq]⟩
  obtain⟨b,o,eX,dW⟩:=hv.some (L9 dq)
  simp only[Value.slice.injEq]at dW
  obtain⟨rfl,_,rfl⟩:=dW
  refine bC i zr zr zr zr zr zr zr zr dq ?_
  refine aT ?_
  refine aN 0 i zr zr zr hv rfl (pJ hx) zr zr ?_
  refine bR [1] zr zr zr zr (hf x (List.mem_of_getElem? hx)) rfl iE ?_
  rintro _ _⟨rfl,rfl⟩
  refine go ?_
  refine dj zr zr ?_ ?_
  ·intro hp
   refine go ?_
   refine aG hR Tryz.func323 rfl _ rfl ⟨by rw[gb hx hp hb];rfl,rfl⟩ (ao.fin [1,0] 0 zr zr)
  ·intro hp
   refine go ?_
   refine aK ih (i+1) rfl ⟨ai,jH hb hx hp⟩ ai bQ (ao.pick [1,0] rfl)
 ·intro ek
  refine go ?_
  have:i=l.length:=by omega
  subst this
  refine aG hR Tryz.func323 rfl _ rfl ⟨by rw[gY (fun x hx=>hb x (by simpa using hx))];rfl,rfl⟩ (ao.fin [0,1] 0 zr zr)
end Go.Proofs.YtnkfkabokmcgoaaGreatDoor
namespace Go.Proofs.YtnkfkabokmcgoaaGreatDoor
open Go Go.SL
def pS:Int→List (List UInt8)→List (Int × List UInt8)
 | _,[]=>[]
 | i,x::l=>(i,x)::pS (i+1) l
def CX(k:UInt8)(d:Dg)(ls:List (List UInt8)):List (Int × List UInt8):=(1,[k])::(2,d.bs)::pS 3 ls
def vS(k:UInt8)(d:Dg)(ls:List (List UInt8)):List UInt8:=dM (CX k d ls)
theorem Ax:∀(i:Int) (l:List (List UInt8)) (x:List UInt8),pS i (l++[x])=pS i l++[(i+l.length,x)]
 | i,[],x=>by simp[pS]
 | i,y::l,x=>by
  simp only[List.cons_append,pS,Ax (i+1) l x,List.length_cons,List.cons_append]
  grind
theorem w8:∀(i:Int) (l:List (List UInt8)) (last:Int),last<i→i+l.length≤64→ec last (pS i l)=true
 | i,[],last,h,h2=>rfl
 | i,y::l,last,h,h2=>by
  simp only[pS,ec,List.length_cons]at h2 ⊢
  rw[decide_eq_true h,decide_eq_true (show i≤63 by omega),w8 (i+1) l i ai ai]
  rfl
theorem GG{n:Int}{b:List UInt8}(h:b.length≤32):(kD (n,b)).length≤34:=by
 grind [uv,gu,kD]
theorem Aw:∀(i:Int) (l:List (List UInt8)) (z:Int × List UInt8),z∈pS i l→z.2∈l
 | i,[],z,h=>by cases h
 | i,y::l,z,h=>by
  rcases List.mem_cons.1 h with rfl|h
  ·grind
  ·exact List.mem_cons_of_mem _ (Aw (i+1) l z h)
theorem tV:∀(i:Int) (l:List (List UInt8)),(pS i l).length=l.length
 | i,[]=>rfl
 | i,y::l=>by simp[pS,tV (i+1) l]
theorem EX:∀(l:List (Int × List UInt8)),(∀z∈l,z.2.length≤32)→(dM l).length≤34*l.length
 | [],_=>by simp[dM]
 | z::l,h=>by
  have h1:=EX l (fun w hw=>h w (List.mem_cons_of_mem _ hw))
  grind [GG,dM,kD]
theorem tW(k:UInt8)(d:Dg)(ls:List (List UInt8))(hl:ls.length≤20)(hx:∀x∈ls,x.length≤32):(vS k d ls).length≤748:=by
 have:=EX (CX k d ls) (fun z hz=>by
  unfold CX at hz
  rcases List.mem_cons.1 hz with rfl|hz
  ·simp
  rcases List.mem_cons.1 hz with rfl|hz
  ·simp only;rw[d.len];omega
  ·exact hx _ (Aw 3 ls z hz))
 grind [CX,tV,vS]
theorem Gi(k:UInt8)(d:Dg)(ls:List (List UInt8))(hl:ls.length≤20):ec 0 (CX k d ls)=true:=by
 grind [CX,ec,w8]
attribute [local irreducible] J K aq Ends ag aI aC bF aW aP a6 aZ bN aB
theorem tU(k:UInt8)(d:Dg)(Z:HP)(mv:Value)(ls:List (List UInt8))(hv:su Z mv ls)(hl:ls.length≤20)(aaP:∀x∈ls,x.length≤32) :
  aq Tryz.prog 239 [u8 k,dV d,mv] [Z] (fun r H=>H=[aI 5 1 r (vS k d ls).length (bV (vS k d ls)),Z]):=by
 have Iu:=tW k d ls hl aaP
 have hrr:=Gi k d ls hl
 obtain⟨cs,dt,mF,⟨a2,c2,rfl,W0⟩,q4⟩:=hv
 unfold dV
 refine aq.aj Tryz.func239 Tryz.ntmps239 fun G F R hE=>?_
 refine aH rfl ?_
 refine bp zr zr bh ?_
 intro b4
 refine go ?_
 refine al (cs:=bV [k]) zr zr zr zr zr zr zr zr zr bh ?_
 intro r0
 refine go ?_
 refine iQ (U:=aU) zr zr zr zr zr (go ?_)
 obtain⟨sA,uC⟩:∃sA:List It,sA=[⟨1,.slice (some ⟨r0,0,none⟩) 1 1,[k]⟩,⟨2,.slice (some ⟨b4,0,none⟩) 32 32,d.bs⟩]:=⟨_,rfl⟩
 have h2l:sA.length=2:=by rw[uC];rfl
 refine al (cs:=sA.flatMap jJ) zr zr zr zr zr zr zr zr (by rw[uC];rfl) bh ?_
 intro row
 refine go ?_
 obtain⟨Y,hY⟩:∃Y,Y=Sep [ag r0 (cl (bV [k]) 5),ag b4 (cl (dC d) 36),Z]:=⟨_,rfl⟩
 have hYZ:∀h,Y h→∃h',sub h' h∧Z h':=by rw[hY];exact bz (i:=2) rfl
 have hB0:∀z∈sA,fb Y z.v z.b:=by
  intro z hz
  rw[uC]at hz
  simp only[List.mem_cons,List.not_mem_nil,or_false]at hz
  rcases hz with rfl|rfl
  ·rw[hY];exact fb.mono (⟨Vw.ag rfl,_,_,rfl,Nat.le_refl _⟩) (bz (i:=0) rfl)
  ·rw[hY];exact(fb.block d.len (eG d)).mono (bz (i:=1) rfl)
 have GR:sA.map It.p=(1,[k])::(2,d.bs)::pS 3 (ls.take 0):=by rw[uC];rfl
 refine ak (H':=aI 297 2 (.slice (some ⟨row,0,none⟩) sA.length 2) sA.length (sA.flatMap jJ)::Y::F) ?_ ?_
 ·rw[hY]
  refine ao.trans (H2:=ag r0 (cl (bV [k]) 5)::ag b4 (cl (dC d) 36)::Z::ag row (cl (sA.flatMap jJ++[]) 297)::F) (by rw[List.append_nil];exact ah) ?_
  refine(ao.cd [_,_,_] _).trans ?_
  refine(ao.perm (List.Perm.swap ..)).trans ?_
  rw[h2l]
  exact eL 297 2 row 2 2 (sA.flatMap jJ) [] _ (by rw[uC];rfl) (Nat.le_refl _) (by rw[uC];simp[jJ])
 refine bn (fun y:Nat × List It × Option Addr × Nat=>y.1≤ls.length∧y.2.1.map It.p=(1,[k])::(2,d.bs)::pS 3 (ls.take y.1)∧∀z∈y.2.1,fb Y z.v z.b) (fun y=>ls.length-y.1)
  (fun y=>[(7,.slice y.2.2.1 y.2.1.length y.2.2.2),(18,.slice a2 ls.length c2),(19,.int .i64 (ls.length:Int)),(20,.int .i64 (y.1:Int))])
  (fun y=>aI 297 2 (.slice y.2.2.1 y.2.1.length y.2.2.2) y.2.1.length (y.2.1.flatMap jJ)::Y::F) (0,sA,some ⟨row,0,none⟩,2) ⟨Nat.zero_le _,GR,hB0⟩ rfl (by rw[h2l];exact bQ) ah ?_
 clear GR hB0 h2l uC
 rintro⟨i,dR,ia,ic⟩⟨hi,pk,sR⟩ ih
 simp only at hi pk sR
 dsimp only
 have Zo:dR.length=i+2:=by
  have:=congrArg List.length pk
  grind [tV]
 refine go ?_
 refine au zr zr ?_ ?_
 ·intro cq
  have dq:i<ls.length:=by omega
  obtain⟨x,hx⟩:∃x,ls[i]?=some x:=⟨ls[i],by simp⟩
  obtain⟨cv,W1,y8⟩:=q4 i x hx
  obtain⟨xa,xc,rfl,hxc⟩:=y8.2
  obtain⟨b,o,eX,dW⟩:=dt.some (by intro h;rw[h]at mF;simp at mF;omega)
  simp only[Value.slice.injEq]at dW
  obtain⟨rfl,_,rfl⟩:=dW
  have aaS:=dt.mono hYZ
  refine go ?_
  refine bC i zr zr zr zr zr zr zr zr dq ?_
  refine aT ?_
  refine aN 1 i zr zr zr aaS rfl W1 zr zr (go ?_)
  refine al (cs:=jJ ⟨3+(i:Int),.slice xa x.length xc,x⟩) zr zr zr zr zr zr zr zr zr bh ?_
  intro Mj
  refine go ?_
  refine aO (mm:=1) (news:=jJ ⟨3+(i:Int),.slice xa x.length xc,x⟩) 1 0 rfl rfl rfl rfl rfl rfl rfl rfl rfl rfl rfl rfl (Vw.ag rfl) rfl (by intro v hv;simp[jJ]at hv;rcases hv with rfl|rfl <;> rfl) ai (by show(_+_)*32≤_;omega) (fun _=>rfl) bh ?_
  intro v1
  rw[show dR.flatMap jJ++jJ (⟨3+(i:Int),.slice xa x.length xc,x⟩:It)=(dR++[(⟨3+(i:Int),.slice xa x.length xc,x⟩:It)]).flatMap jJ from by simp,show dR.length+1=(dR++[(⟨3+(i:Int),.slice xa x.length xc,x⟩:It)]).length from by simp]
  refine aL 1 rfl ?_
  rintro ja jc rfl
  have Ku:(dR++[(⟨3+(i:Int),.slice xa x.length xc,x⟩:It)]).map It.p=(1,[k])::(2,d.bs)::pS 3 (ls.take (i+1)):=by
   rw[List.map_append,pk,List.take_add_one,hx,Option.toList_some,Ax,List.length_take,Nat.min_eq_left ai]
   rfl
  refine go ?_
  refine aK ih (i+1,dR++[(⟨3+(i:Int),.slice xa x.length xc,x⟩:It)],ja,jc) rfl ⟨by simp only;omega,Ku,fun z hz=>(by rcases List.mem_append.1 hz with h|h;exact sR z h;rw[List.mem_singleton.1 h];exact y8.mono hYZ)⟩ (by simp only;omega) bQ ah
 ·intro ek
  have vK:i=ls.length:=by omega
  subst vK
  rw[List.take_length]at pk
  have VQ:dR.map It.p=CX k d ls:=pk
  clear ih
  refine eu 0 rfl ?_
  intro Ir
  have Be:=kX (Sep [aI 297 2 (.slice ia dR.length ic) dR.length (dR.flatMap jJ),Y]) (.slice ia dR.length ic) dR ⟨Ir.mono (bz (i:=0) rfl),fun z hz=>(sR z hz).mono (bz (i:=1) rfl)⟩ ai (by rw[VQ];exact hrr) (by rw[VQ];exact Nat.le_trans Iu ai)
  rw[VQ]at Be
  refine go ?_
  refine aS (ao.cd [_,_] _) ?_
  refine aF Be ?_
  rintro _ _⟨rr,rfl,rfl⟩
  refine go ?_
  refine ak (ao.cons _ (ao.cX [_,_] _)) ?_
  refine ak (H':=Y::aI 5 1 rr (vS k d ls).length (bV (vS k d ls))::F) ah ?_
  rw[hY]
  refine ak (ao.cX [_,_,_] _) ?_
  refine ak (H':=aI 5 1 rr (vS k d ls).length (bV (vS k d ls))::Z::F) ah ?_
  refine aG hE Tryz.func239 rfl _ zr zr ah
def mh(x:Bl):List (List UInt8):=[uv x.size.toNat,uv x.piece.toNat,x.root.bs]
def eh(x:Bl):List UInt8:=vS 1 x.d (mh x)
theorem u6(x:Bl)(hs:x.size≤1000000000000)(hp:x.piece≤1000000000000):∀b∈mh x,b.length≤32:=fun b hb=>by
 simp only[mh,List.mem_cons,List.not_mem_nil,or_false]at hb
 rcases hb with rfl|rfl|rfl
 ·grind [na]
 ·grind [na]
 ·rw[x.root.len];omega
def wj(x:Bl)(hs:0≤x.size∧x.size≤1000000000000)(hp:0≤x.piece∧x.piece≤1000000000000) :
  aq Tryz.prog 138 [mH x] [] (fun r H=>H=[aI 5 1 r (eh x).length (bV (eh x))]):=by
 obtain⟨sz,iF⟩:∃m:Nat,x.size=m:=⟨x.size.toNat,ai⟩
 obtain⟨pc,MM⟩:∃m:Nat,x.piece=m:=⟨x.piece.toNat,ai⟩
 have hlen:=u6 x hs.2 hp.2
 unfold mH
 refine aq.aj Tryz.func138 Tryz.ntmps138 fun G F R hE=>?_
 refine aH rfl ?_
 refine bp zr zr bh ?_
 intro b1
 refine go ?_
 refine aJ (fun w=>Sat G w ([ag b1 (cl (dY x) 107)])) (cM 0 5 (cM 6 3 (.st 10 (.st 11 (.act 5 (.act 9 (.act 12 (.act 13 (.st 14 .nil))))))))) rfl ae ae ae cY ?_
 (repeat(first|refine fq ?_|refine bU (U:=aU) 0 zr zr zr zr zr zr ?_|refine iQ (U:=aU) zr zr zr zr zr ?_))
 refine aD 7 ((.int .u64 (sz:Int))) rfl ((congrArg (Value.int .u64) iF)) ?_
 refine aD 11 ((.int .u64 (pc:Int))) rfl ((congrArg (Value.int .u64) MM)) ?_
 refine dx (j5 sz ai) ?_
 rintro r8 _ rfl
 refine aL 0 rfl ?_
 rintro a8 c8 rfl
 refine go ?_
 refine dx (j5 pc ai) ?_
 rintro r9 _ rfl
 refine aL 0 rfl ?_
 rintro a9 c9 rfl
 refine gU (bs:=uv pc) 0 rfl ?_
 intro V9
 refine gU (bs:=uv sz) 1 rfl ?_
 intro W2
 refine go ?_
 obtain⟨cs,jA⟩:∃cs:List Value,cs=[.slice a8 (uv sz).length c8,.slice a9 (uv pc).length c9,.slice (some ⟨b1,34,none⟩) 32 32]:=⟨_,rfl⟩
 refine al (cs:=cs) zr zr zr zr zr zr zr zr (by rw[jA];rfl) (fun _ _ hw=>hw.cn ah) ?_
 intro row
 have lE:su (Sep [ag row (cl cs 38),aI 5 1 (.slice a8 (uv sz).length c8) (uv sz).length (bV (uv sz)),aI 5 1 (.slice a9 (uv pc).length c9) (uv pc).length (bV (uv pc)),ag b1 (cl (dY x) 107)]) (.slice (some ⟨row,0,none⟩) 3 3) (mh x):=by
  refine⟨cs,(Vw.ag (by rw[jA];rfl)).mono (bz (i:=0) rfl),by rw[jA];rfl,⟨_,_,rfl,Nat.le_refl _⟩,fun i y hy=>?_⟩
  have aa3:x.size.toNat=sz:=by omega
  have aa':x.piece.toNat=pc:=by omega
  unfold mh at hy
  rw[aa3,aa']at hy
  match i,hy with
  | 0,hy=>cases hy;exact⟨_,by rw[jA];rfl,W2.mono (bz (i:=1) rfl)⟩
  | 1,hy=>cases hy;exact⟨_,by rw[jA];rfl,V9.mono (bz (i:=2) rfl)⟩
  | 2,hy=>cases hy;exact⟨_,by rw[jA];rfl,(fb.U8 x.root.len (by rw[← eG];exact Nw x)).mono (bz (i:=3) rfl)⟩
  | i+3,hy=>simp at hy
 have MG:=tU 1 x.d _ _ (mh x) lE (by simp[mh]) hlen
 unfold dV at MG
 clear lE
 clear jA
 refine go ?_
 refine aS (ao.trans (H2:=ag row (cl cs 38)::aI 5 1 (.slice a8 (uv sz).length c8) (uv sz).length (bV (uv sz))::aI 5 1 (.slice a9 (uv pc).length c9) (uv pc).length (bV (uv pc))::ag b1 (cl (dY x) 107)::F) ah (ao.cd [_,_,_,_] _)) ?_
 refine cP rfl rfl rfl rfl MG ah ?_ (fun _ _ w hp hw=>by obtain rfl:=hp;exact hw.cn (ao.trans (ao.pick [1] rfl) (ao.trans (ao.cX [_,_,_,_] _) ah)))
 rintro rr _ rfl
 refine go ?_
 refine ak (H':=aI 5 1 rr (eh x).length (bV (eh x))::F) ah ?_
 refine aG hE Tryz.func138 rfl _ zr zr ah
end Go.Proofs.YtnkfkabokmcgoaaGreatDoor
namespace Go.Proofs.YtnkfkabokmcgoaaGreatDoor
open Go Go.SL
def HC(e:TypeId)(H:List HP):ao H (a6 e []::H):=ao.jw H
attribute [local irreducible] J K aq Ends ag aI aC bF aW aP a6 aZ bN aB
def Hl(x:Bl):aq Tryz.prog 131 [mH x] [] (fun r H=>∃y:Tk,r=ptr y.yb∧H=[oM y]∧y.x=x∧(y.n:Int)=fk x∧y.ws=List.replicate ((y.n+63)/64) 0#64∧y.pf=fun _=>none):=by
 have mF:=xU x
 obtain⟨n,hn⟩:∃n:Nat,fk x=n:=⟨(fk x).toNat,ai⟩
 have hc:=rE x
 rw[hn]at hc
 have Kn:=LM n ai
 unfold mH at hc ⊢
 unfold kM at Kn
 refine aq.aj Tryz.func131 Tryz.ntmps131 fun G F R hE=>?_
 refine aH rfl ?_
 refine bp zr zr bh ?_
 intro b1
 refine go ?_
 refine aM (U:=aU) (l:=dY x) 0 zr zr zr zr zr zr ?_
 refine aw hc ?_
 refine go ?_
 refine aF Kn ?_
 rintro _ _⟨sb,wv,rfl,rfl⟩
 refine go ?_
 refine aS (H':=ag b1 (cl (dY x) 107)::ag sb (cl [.int .i64 (n:Int),wv] 307)::aI 43 1 wv (List.replicate ((n+63)/64) 0#64).length (qV (List.replicate ((n+63)/64) 0#64))::F) ah (go ?_)
 refine aM (U:=aU) (l:=dY x) 0 zr zr zr zr zr zr (go ?_)
 refine dN rfl bh ?_
 intro mb
 refine aS (ao.fold (B:=[_]) (A:=aC (Value.int .i64) mb []) (fun h hs=>⟨h,sub.refl h,fO (Value.int .i64) mb h (cW hs)⟩)) ?_
 refine go ?_
 refine bp zr zr bh ?_
 intro yb
 refine go ?_
 obtain⟨y,hy⟩:∃y:Tk,y=⟨yb,sb,mb,x,n,List.replicate ((n+63)/64) 0#64,fun _=>none⟩:=⟨_,rfl⟩
 have hR:FF (wv,[],[]) y:=fun k=>by rw[hy];rfl
 refine ak (H':=Aa y (wv,[],[])++F) ?_ ?_
 ·rw[hy]
  unfold Aa
  exact ao.trans (HC 36 _) ah
 refine ak (lQ hR F) ?_
 ((refine ad hE Tryz.func131 zr zr ⟨y,by rw[hy];rfl,rfl,by rw[hy],by rw[hy];exact hn.symm,by rw[hy],by rw[hy]⟩))
def Tk.put(y:Tk)(i:Nat)(l:List Dg):Tk:=⟨y.yb,y.sb,y.mb,y.x,y.n,lW y.ws i true,fun j=>if j=(i:Int)then some l else y.pf j⟩
def IS(y:Tk)(i:Nat)(hi:i<y.n)(hn:y.n≤65536)(hw:y.n≤y.ws.length*64)(P:HP)(pv:Value)(l:List Dg)(hv:Vw P pv l.length (l.flatMap dC))(hl:l.length≤1000000) :
  aq Tryz.prog 188 [ptr y.yb,.int .i64 (i:Int),pv] [oM y,P] (fun r H=>r = .tuple #[]∧H=[oM (y.put i l),P]):=by
 have mF:=LK P pv l hv hl
 obtain⟨a,c,rfl⟩:=hv.shape
 refine aq.aj Tryz.func188 Tryz.ntmps188 fun G F R hE=>?_
 refine cI (iY y) ?_
 rintro⟨wv,cs,M⟩ hz
 have vZ:=Cj y.sb y.n wv y.ws hn hw i hi true
 unfold kM at vZ
 refine ak (H':=ag y.yb (cl (sK y) 138)::ag y.sb (cl [.int .i64 (y.n:Int),wv] 307)::aI 43 1 wv y.ws.length (qV y.ws)::aC (Value.int .i64) y.mb cs::a6 36 M::P::F) (by unfold Aa;exact ah) ?_
 refine go ?_
 refine aw vZ ?_
 refine go ?_
 refine aJ (fun w=>Sat G w ([ag y.yb (cl (sK y) 138)])) (cM 0 6 (.act 6 (.act 7 .nil))) rfl ae ae ae cY ?_
 refine go ?_
 refine dx mF ?_
 rintro r8 _ rfl
 refine go ?_
 refine aS (H':=aC (Value.int .i64) y.mb cs::aI 36 32 r8 l.length (l.flatMap dC)::a6 36 M::ag y.yb (cl (sK y) 138)::ag y.sb (cl [.int .i64 (y.n:Int),wv] 307)::aI 43 1 wv (lW y.ws i true).length (qV (lW y.ws i true))::P::F) ah ?_
 refine cy (kv:=Value.int .i64) (es:=cs) (key:=(i:Int)) (v:=r8) 0 (pg Tryz.underlying3) eW zr zr zr zr zr zr zr zr (go ?_)
 refine ak (ao.perm (List.Perm.swap ..)) ?_
 refine ak (H':=aI 36 32 r8 l.length (l.flatMap dC)::a6 36 M::aC (Value.int .i64) y.mb (iy cs (i:Int) r8)::ag y.yb (cl (sK y) 138)::ag y.sb (cl [.int .i64 (y.n:Int),wv] 307)::aI 43 1 wv (lW y.ws i true).length (qV (lW y.ws i true))::P::F) ah ?_
 refine ak (ao.join _ _ _) ?_
 refine cI (Ar 36 32 l.length r8 (l.flatMap dC) M) ?_
 rintro M'⟨abK,cu⟩
 have YE:FF (wv,iy cs (i:Int) r8,M') (y.put i l):=FF.put hz (i:Int) r8 wv l M' cu abK _ rfl
 refine ak (H':=Aa (y.put i l) (wv,iy cs (i:Int) r8,M')++(P::F)) (by unfold Aa;exact ah) ?_
 refine ak (lQ YE _) ?_
 refine bB hE Tryz.func188 rfl _ rfl ⟨rfl,rfl⟩ ah
theorem wz(v:Value)(l:List Tk)(X:HP)(g:FuncId)(cap:List Value)(p:Tk→Bool)(hlen:l.length≤1000000)(hf:∀x∈l,aq Tryz.prog g (ptr x.yb::cap) [X] (fun v H=>v = .bool (p x)∧H=[X])) :
  aq Tryz.prog 234 [v,.func (.func g) #[] cap.toArray] [aI 133 1 v l.length (l.map eK),X]
   (fun r H=>H=[aI 133 1 r (l.filter fun x => !p x).length ((l.filter fun x => !p x).map eK),X]):=by
 refine aq.aj Tryz.func234 Tryz.ntmps234 fun G F R hE=>?_
 refine cL 0 rfl ?_
 rintro a0 c rfl
 refine go ?_
 refine dT 0 rfl ?_
 intro hv
 refine bR [0,1] zr zr zr zr (zN _ X _ l hv hlen g cap p hf) rfl iE ?_
 rintro _ _⟨rfl,rfl⟩
 refine go ?_
 refine au zr zr ?_ ?_
 ·intro h0
  have mO:l.any p=false:=jW.1 ai
  have qD:(l.filter fun x => !p x)=l:=List.filter_eq_self.2 fun x hx=>by
   grind
  rw[qD]at hE
  refine go ?_
  refine aG hE Tryz.func234 rfl _ zr zr (ao.fin [0,1] 0 zr zr)
 ·intro h0
  obtain⟨i0,x0,G4,Vq,GR,Bj⟩:=ph h0
  have Zu:i0<l.length:=by
   grind
  rw[G4]
  refine go ?_
  refine pq (fun a l8 hn _=>by omega) ?_
  rintro b o c' pre bL vG jq hnc gg mF
  simp only[Value.slice.injEq,true_and]at vG
  obtain⟨rfl,rfl⟩:=vG
  have h1:l.take (i0+1)=l.take i0++[x0]:=by rw[List.take_add_one,Vq];rfl
  have Cp:(l.take i0).filter (fun x => !p x)=l.take i0:=List.filter_eq_self.2 fun x hx=>by simp[Bj x hx]
  refine bn (fun s:Nat × Nat × List Tk=>s.1<s.2.1∧s.2.1≤l.length∧s.2.2.length=l.length∧s.2.2.take s.1=(l.take s.2.1).filter (fun x => !p x)∧s.2.2.drop s.2.1=l.drop s.2.1) (fun s=>l.length-s.2.1)
   (fun s=>[(0,.slice (some ⟨b,o,none⟩) l.length c),(1,.func (.func g) #[] cap.toArray),(5,.int .i64 s.1),(6,.int .i64 s.2.1)])
   (fun s=>ag b (cl (pre++s.2.2.map eK++bL) 133)::X::F) (i0,i0+1,l) ⟨by simp,by simp only;omega,rfl,by simp only[h1,List.filter_append,Cp];simp[GR],rfl⟩ rfl bQ (ao.refl _) ?_
  rintro⟨i,j,E⟩⟨G1,Fh,Cq,se,Fq⟩ ih
  simp only at G1 Fh Cq se Fq
  have lg:(E.map eK).length=l.length:=by rw[List.length_map,Cq]
  have YP:Vw (ag b (cl (pre++E.map eK++bL) 133)) (.slice (some ⟨b,o,none⟩) l.length c) l.length (E.map eK):=Vw.ag (by rw[List.append_assoc,← jq,List.drop_left,List.take_left])
  refine go ?_
  refine au zr zr ?_ ?_
  ·intro cq
   simp only at cq
   have nC:j<l.length:=by omega
   obtain⟨x,hx⟩:∃x,l[j]?=some x:=⟨l[j],by simp[nC]⟩
   have ZW:E[j]?=some x:=by
    have:=congrArg (·[0]?) Fq
    grind
   have dF:=List.mem_of_getElem? hx
   have M1:=hf _ dF
   refine go ?_
   refine bC j zr zr zr zr zr zr zr zr nC ?_
   refine aT ?_
   refine aN 0 j zr zr zr YP rfl (pJ ZW) zr zr (go ?_)
   refine bR [1] zr zr zr zr (M1) rfl iE ?_
   rintro _ _⟨rfl,rfl⟩
   refine go ?_
   refine dj zr zr ?_ ?_
   ·intro hp
    have pC:p x=false:=by simpa using hp
    refine go ?_
    refine bC i zr zr zr zr zr zr zr zr ai ?_
    refine j9 (U:=aU) (l':=pre++(E.set i x).map eK++bL) 1 eW zr zr zr zr zr zr zr ?_ ?_ rfl ?_
    ·show o+i+1≤_
     rw[List.length_append,List.length_append,lg];omega
    ·show _=List.take (o+i) (pre++E.map eK++bL)++[eK x]++List.drop (o+i+1) (pre++E.map eK++bL)
     have hs:=oX pre (E.map eK) bL [eK x] i (by rw[lg];simp only[List.length_singleton];omega)
     rw[← jq]
     simp only[List.length_singleton]at hs
     rw[hs,List.map_set,List.set_eq_take_append_cons_drop,if_pos (by rw[lg];omega)]
     simp
    refine go ?_
    refine aK ih (i+1,j+1,E.set i x) rfl ⟨by simp only;omega,by simp only;omega,by simp only[List.length_set];exact Cq,?_,?_⟩ (by simp only;omega) bQ ah
    ·simp only
     rw[List.take_add_one,List.take_set_of_le (Nat.le_refl i),se,List.take_add_one (l:=l),hx,List.getElem?_set_self ai]
     simp[List.filter_append,pC]
    ·simp only
     rw[List.drop_set_of_lt ai,← List.drop_drop,Fq,List.drop_drop]
   ·intro hp
    have pC:p x=true:=by simpa using hp
    refine go ?_
    refine aK ih (i,j+1,E) rfl ⟨by simp only;omega,by simp only;omega,Cq,by simp only;rw[se,List.take_add_one,hx];simp[List.filter_append,pC],by simp only;rw[← List.drop_drop,Fq,List.drop_drop]⟩ (by simp only;omega) bQ ah
  ·intro ek
   refine go ?_
   simp only at ek
   have Zl:j=l.length:=by omega
   subst Zl
   rw[List.take_length]at se
   have uB:(l.filter fun x => !p x).length=i:=by rw[← se,List.length_take];omega
   refine hD zr zr zr zr zr zr zr ai ai (.inl rfl) ?_
   intro o1 Fe N'
   simp only[Int.toNat_natCast]at Fe N'
   have A5:i≠c→o1=o+i:=fun h=>by have h2:o1=o+i*1:=Fe h;omega
   have hL:(pre++E.map eK++bL).length=o+l.length+bL.length:=by rw[List.length_append,List.length_append,lg,jq]
   obtain⟨jV,Ba,Zm⟩:∃jV,(pre++E.map eK++bL).take o1++(List.replicate (((l.length:Int).toNat-(i:Int).toNat)) [Value.pointer none]).flatten++(pre++E.map eK++bL).drop (o1+((l.length:Int).toNat-(i:Int).toNat)*1)=pre++(E.take i).map eK++jV∧c*1≤i*1+jV.length:=by
    have Kv:i≠c:=by omega
    rw[A5 Kv,← jq,List.append_assoc pre,List.take_length_add_append,List.take_append_of_le_length (by rw[lg];omega),List.map_take]
    grind [iu]
   refine zL (U:=aU) (l':=pre++(E.take i).map eK++jV) 0 eW zr zr zr zr zr zr zr zr ?_ ?_ rfl ?_
   ·have Kv:i≠c:=by omega
    show o1+((l.length:Int).toNat-(i:Int).toNat)*1≤_
    rw[A5 Kv,hL];omega
   ·rw[← Ba];rfl
   refine go ?_
   refine hD zr zr zr zr zr zr zr ai ai (.inr ai) ?_
   intro o2 ho3 ho4
   have Kl:o2=o:=by
    grind
   subst Kl
   refine go ?_
   refine ak (gN (sz:=1) (nn:=i) (c:=c) jq ai (by rw[List.length_map,List.length_take,Nat.min_eq_left ai];omega) (by rw[List.length_map,List.length_take];omega) _) ?_
   rw[← se,se,uB,← se]at hE
   refine aG hE Tryz.func234 rfl _ zr zr (ao.fin [0,1] 0 zr zr)
def Au(ts:List Tk)(d:Dg)(bx:Nat)(y:Tk)(hy:y∈ts):aq Tryz.prog 235 [ptr y.yb,ptr bx] [Sep [bZ ts,ag bx (cl (dC d) 36)] ] (fun r H=>r = .bool (decide (y.x.d=d))∧H=[Sep [bZ ts,ag bx (cl (dC d) 36)] ]):=by
 obtain⟨i,hi⟩:=List.mem_iff_getElem?.1 hy
 refine aq.aj Tryz.func235 Tryz.ntmps235 fun G F R hE=>?_
 refine ak (ao.cX [_,_] _) ?_
 refine ak (yu hi _) ?_
 refine cI (iY y) ?_
 rintro z hz
 refine ak (H':=ag y.yb (cl (sK y) 138)::ag bx (cl (dC d) 36)::ag y.sb (cl [.int .i64 (y.n:Int),z.1] 307)::aI 43 1 z.1 y.ws.length (qV y.ws)::aC (Value.int .i64) y.mb z.2.1::a6 36 z.2.2::bZ (ts.take i++ts.drop (i+1))::F) ah (go ?_)
 refine aJ (fun w=>Sat G w ([ag y.yb (cl (sK y) 138),ag bx (cl (dC d) 36)])) (cM 0 8 .nil) rfl ae ae ae cY ?_
 refine go ?_
 refine bU (U:=aU) 0 zr zr zr zr zr zr (go ?_)
 refine df (U:=aU) (l:=dC d) 1 zr zr zr zr zr zr (go ?_)
 refine mw (b:=decide (y.x.d=d)) zr zr zr KC (fun w=>KI y.x.d d w) ?_
 refine go ?_
 refine ak (H':=Aa y z++(bZ (ts.take i++ts.drop (i+1))::ag bx (cl (dC d) 36)::F)) (by unfold Aa;exact ah) ?_
 refine ak (lQ hz _) ?_
 refine ak (EL hi _) ?_
 refine ak (ao.cd [_,_] _) ?_
 refine ad hE Tryz.func235 zr zr ⟨rfl,rfl⟩
end Go.Proofs.YtnkfkabokmcgoaaGreatDoor
namespace Go.Proofs.YtnkfkabokmcgoaaGreatDoor
open Go Go.SL
def oV(q:Tk→Bool):∀(ts:List Tk) (H:List HP),ao (bZ ts::H) (bZ (ts.filter q)::H)
 | [],H=>ao.refl _
 | y::ts,H=>by
  have h1:ao (bZ (y::ts)::H) (oM y::bZ ts::H):=ys [] ts y H
  by_cases hq:q y=true
  ·rw[List.filter_cons_of_pos hq]
   have h2:ao (oM y::bZ (ts.filter q)::H) (bZ (y::ts.filter q)::H):=tz [] (ts.filter q) y H
   exact h1.trans ((ao.cons _ (oV q ts H)).trans h2)
  ·rw[List.filter_cons_of_neg hq]
   exact h1.trans ((ao.drop _ _).trans (oV q ts H))
def Ml(ts:List Tk)(d:Dg):List Tk:=ts.filter fun y => !decide (y.x.d=d)
attribute [local irreducible] J K aq Ends ag aI aC bF aW aP a6 aZ bN aB
def CW(tb bs jb:Nat)(tv:Value)(br:Bool)(ts:List Tk)(d:Dg)(hl:ts.length≤1000000):aq Tryz.prog 127 [ptr tb,dV d] (ff tb bs jb tv ts br)
  (fun r H=>r = .tuple #[]∧∃F4,H=ff tb bs jb F4 (Ml ts d) br):=by
 refine aq.aj Tryz.func127 Tryz.ntmps127 fun G F R hE=>?_
 refine cL 1 rfl ?_
 rintro a c rfl
 refine aH rfl ?_
 refine bp zr zr bh ?_
 intro b3
 refine go ?_
 refine aS (ao.pick [1,2,3] rfl) ?_
 refine aS (ao.cons _ (ao.cons _ (ao.cd [_,_] _))) (go ?_)
 refine aF (wz _ ts _ 235 [ptr b3] (fun y=>decide (y.x.d=d)) hl (fun y hy=>Au ts d b3 y hy)) ?_
 rintro r _ rfl
 refine aL 0 rfl ?_
 rintro a2 c2 rfl
 refine go ?_
 refine ak (ao.pick [1,2] rfl) ?_
 refine ak (ao.cX [_,_] _) ?_
 refine ak (oV (fun y => !decide (y.x.d=d)) ts _) ?_
 refine bB hE Tryz.func127 rfl _ rfl ⟨rfl,_,rfl⟩ ah
end Go.Proofs.YtnkfkabokmcgoaaGreatDoor
namespace Go.Proofs.YtnkfkabokmcgoaaGreatDoor
open Go Go.SL
def kP(bs bd jb:Nat)(q:Int)(mb:Nat)(Xs:List HP)(x:SJ):HP:=Sep (oW bs bd q mb x.1++(LP jb bd mS x.2::Xs))
attribute [local irreducible] J K aq Ends ag aI aC bF aW aP a6 aZ bN aB
def dQ(s:mI)(x:Bl)(i:Int):List UInt8 × Nat:=if ue s.cm x then(match pN x i with
 | none=>([],1)
 | some (a,n)=>s.A.read (dg kS x.d) a n)else([],4)
def Ei(bs bd:Nat)(q:Int)(mb:Nat)(s:mI)(x:Bl)(i:Int):aq Tryz.prog 141 [ptr bs,mH x,.int .i64 i] (oW bs bd q mb s)
  (fun r H=>∃rv,r = .tuple #[rv,.int .i64 ((dQ s x i).2:Int)]∧H=aI 5 1 rv (dQ s x i).1.length (bV (dQ s x i).1)::oW bs bd q mb s):=by
 obtain⟨A,cm,brk⟩:=s
 have ho:=JJ bs bd q mb brk cm x
 have AZ:=BK x i
 have hf:=nM kS x.d (by decide)
 unfold mH dV at *
 unfold oW
 dsimp only
 refine aq.aj Tryz.func141 Tryz.ntmps141 fun G F R hE=>?_
 refine aH rfl ?_
 refine bp zr zr bh ?_
 intro b4
 refine go ?_
 refine aM (U:=aU) (l:=dY x) 0 zr zr zr zr zr zr ?_
 refine aw ho ?_
 cases hh:ue cm x with
 | false =>
  have h1:dQ ⟨A,cm,brk⟩ x i=([],4):=by unfold dQ;rw[if_neg (by simp[hh])]
  rw[h1]at hE
  refine go ?_
  refine ak (bj 5 1 none _) ?_
  refine ak (H':=aI 5 1 (.slice none 0 0) 0 []::ag bs (cl (cF bd q mb brk) 120)::aC dV mb (dP cm)::aB bd A::F) ah ?_
  refine ad hE Tryz.func141 zr zr ⟨_,rfl,rfl⟩
 | true =>
  refine go ?_
  refine aM (U:=aU) (l:=dY x) 2 zr zr zr zr zr zr ?_
  ((refine go ?_;(refine aF AZ ?_)))
  rintro _ _⟨rfl,rfl⟩
  cases hs:pN x i with
  | none =>
   have h1:dQ ⟨A,cm,brk⟩ x i=([],1):=by unfold dQ;rw[if_pos (by simp[hh]),hs]
   rw[h1]at hE
   refine go ?_
   refine ak (bj 5 1 none _) ?_
   refine ak (H':=aI 5 1 (.slice none 0 0) 0 []::ag bs (cl (cF bd q mb brk) 120)::aC dV mb (dP cm)::aB bd A::F) ah ?_
   refine ad hE Tryz.func141 zr zr ⟨_,rfl,rfl⟩
  | some an =>
   obtain⟨a,n⟩:=an
   have h1:dQ ⟨A,cm,brk⟩ x i=A.read (dg kS x.d) a n:=by unfold dQ;rw[if_pos (by simp[hh]),hs]
   rw[h1]at hE
   have sQ:=zz bd A (dg kS x.d) a n
   refine go ?_
   refine ak (H':=ag b4 (cl (dY x) 107)::ag bs (cl (cF bd q mb brk) 120)::aC dV mb (dP cm)::aB bd A::F) ah ?_
   refine aJ (fun w=>Sat G w ([ag b4 (cl (dY x) 107),ag bs (cl (cF bd q mb brk) 120)])) (cM 0 6 (.st 7 (.st 8 (.act 6 (.act 9 (cM 10 4 .nil)))))) rfl ae ae ae cY ?_
   refine go ?_
   refine bU (U:=aU) 0 zr zr zr zr zr zr (go ?_)
   refine bP hf ?_
   refine go ?_
   ((refine cP zr zr zr zr (sQ) ah ?_ (fun _ _ w hp hw=>by obtain⟨r,rfl,rfl⟩:=hp;exact hw.cn ah)))
   rintro _ _⟨r,rfl,rfl⟩
   refine go ?_
   refine ak (H':=aI 5 1 r (A.read (dg kS x.d) a n).1.length (bV (A.read (dg kS x.d) a n).1)::ag bs (cl (cF bd q mb brk) 120)::aC dV mb (dP cm)::aB bd A::F) ah ?_
   refine ad hE Tryz.func141 zr zr ⟨_,rfl,rfl⟩
attribute [local irreducible] LI rS
theorem Cc(jb bd:Nat)(name:ByteArray)(Ff:name.size≤1000000000)(A:Ab)(x:JN)(V:HP)(lv:Value)(ls:List (List UInt8))(hv:su V lv ls)(hl:(ls.flatMap dH).length≤100000000)(hn:ls.length≤1000000000)(dD:A.aR.length≤900000000)(Ip:A.writes.length≤900000000) :
    aq Tryz.prog 63 [ptr jb,lv] [aB bd A,LP jb bd name x,V]
      (fun r H=>∃(e:Nat) (A':Ab) (x':JN),r = .int .i64 (e:Int)∧H=[aB bd A',LP jb bd name x',V]∧qy name A x ls e A' x'):=by
  obtain⟨n,s,c,bk⟩:=x
  have l8:=hv
  obtain⟨cs,dt,mF,⟨a,cc,rfl,hcc⟩,pn⟩:=hv
  dsimp only [LP,jr]
  refine aq.aj Tryz.func63 Tryz.ntmps63 fun G F R hE=>?_
  unfold qy at hE
  cases bk with
  | true =>
    simp only[if_true]at hE
    refine go ?_
    refine ad hE Tryz.func63 zr zr ⟨10,_,⟨n,s,c,true⟩,rfl,rfl,rfl,rfl,rfl⟩
  | false =>
    simp only[Bool.false_eq_true,if_false]at hE
    refine go ?_
    refine bn (fun i:Nat=>i≤ls.length∧∀(j:Nat) (y:List UInt8),j<i→ls[j]?=some y→y.length≤4096) (fun i=>ls.length-i)
      (fun i=>[(0,ptr jb),(0+1,.slice a ls.length cc),(5,.int .i64 (((ls.take i).flatMap dH).length:Int)),(12,.slice a ls.length cc),(13,.int .i64 ls.length),(14,.int .i64 (i:Int))])
      (fun _=>aB bd A::ag jb (cl [ptr bd,.string name,.int .i64 n,.int .i64 s,.int .i64 c,.bool false] 239)::V::F) 0 ⟨Nat.zero_le _,fun j y hj=>by omega⟩ rfl bQ ah ?_
    rintro i⟨hi,pj⟩ ih
    refine go ?_
    refine au zr zr ?_ ?_
    case' refine_1 =>
      intro cq
      have xF:i<ls.length:=by omega
      obtain⟨y,hy⟩:∃y,ls[i]?=some y:=⟨ls[i],by simp⟩
      obtain⟨cv,q4,hby⟩:=pn i y hy
      obtain⟨b1,o1,k1,vI⟩:=dt.some (by intro e;rw[e]at q4;simp at q4)
      simp only[Value.slice.injEq,true_and]at vI
      obtain⟨rfl,rfl⟩:=vI
      obtain⟨ay,ky,rfl,hky⟩:=hby.2
      have Cp:=xM hy
      have qD:((ls.take (i+1)).flatMap dH).length=((ls.take i).flatMap dH).length+(dH y).length:=by rw[Cp,List.length_append]
      have hle:=Fu ls (i+1)
      refine go ?_
      refine bC i zr zr zr zr zr zr zr zr xF ?_
      refine aN 2 i zr zr zr dt rfl q4 zr zr (go ?_)
      refine au zr zr ?_ ?_
      · intro q5
        have mO:(ls.any fun b=>decide (4096<b.length))=true:=List.any_eq_true.2 ⟨y,List.mem_of_getElem? hy,decide_eq_true ai⟩
        simp only[if_pos mO]at hE
        refine go ?_
        refine ad hE Tryz.func63 zr zr ⟨1,_,⟨n,s,c,false⟩,rfl,rfl,rfl,rfl,rfl⟩
      intro hJ
      have acr:=Bq y ai
      refine go ?_
      refine aF (sk V _ y hby ai) ?_
      rintro r _ rfl
      refine aL 0 rfl ?_
      rintro ra rc rfl
      refine go ?_
      ((refine aV 5 ((.int .i64 (((ls.take (i+1)).flatMap dH).length:Int))) rfl ((congrArg (Value.int .i64) (by rw[qD];simp))) ?_))
      refine go ?_
      refine aK ih (i+1) rfl (⟨ai,fun j z hj hz=>by
        rcases Nat.lt_or_ge j i with h|h
        · exact pj j z h hz
        · have:j=i:=by omega
          subst this
          rw[hy]at hz;cases hz;omega⟩) ai bQ ah
    intro ek
    have vK:i=ls.length:=by omega
    subst vK
    rw[List.take_length]
    have mO:¬(ls.any fun b=>decide (4096<b.length))=true:=fun h=>by
      obtain⟨y,hy,hb⟩:=List.any_eq_true.1 h
      obtain⟨j,hj,rfl⟩:=List.getElem_of_mem hy
      have:=pj j _ ai (List.getElem?_eq_getElem hj)
      grind
    simp only[if_neg mO]at hE
    refine go ?_
    refine au zr zr ?_ ?_
    · intro q5
      have mN:524288<(ls.flatMap dH).length:=by omega
      simp only[if_pos mN]at hE
      refine go ?_
      refine ad hE Tryz.func63 zr zr ⟨3,_,⟨n,s,c,false⟩,rfl,rfl,rfl,rfl,rfl⟩
    intro hJ
    have mN:¬524288<(ls.flatMap dH).length:=by omega
    simp only[if_neg mN]at hE
    refine go ?_
    refine aF (EY jb bd name n s c false A V _ ls l8 ai hn Ff dD Ip) ?_
    rintro _ _⟨e,⟨A',n',s',c'⟩,rfl,rfl,vZ⟩
    refine go ?_
    refine aw (D9 jb bd name n' s' c' false e) ?_
    refine go ?_
    refine ad hE Tryz.func63 zr zr ⟨e,A',⟨n',s',c',decide (e≠0)⟩,rfl,rfl,_,vZ,rfl,rfl⟩
end Go.Proofs.YtnkfkabokmcgoaaGreatDoor
namespace Go.Proofs.YtnkfkabokmcgoaaGreatDoor
open Go Go.SL
def iH(b:List UInt8):Option (UInt8 × Dg × List (List UInt8)):=match oI b with
 | some (x1::x2::l)=>if((x1::x2::l).getLast?.map (·.1))=some ((2+l.length:Nat):Int)∧x1.2.length=1∧x2.2.length=32 then some (x1.2.headD 0,sF x2.2,l.map (·.2))else none
 | _=>none
def o8(b:List UInt8):Option Nat:=(cO b).bind fun n=>if n≤1048576 then some n else none
def fU(b:List UInt8):Option Dg:=if b.length=32 then some (sF b)else none
def AN(n:Nat):Int:=IntKind.u64.wrap ((BitVec.ofInt IntKind.u64.bits (n:Int) &&& BitVec.ofInt IntKind.u64.bits 4294967295).toNat:Int)
theorem xq(n:Nat):∃k:Nat,AN n=k∧k<4294967296∧(n≤1048576→k=n):=by
 have e1:(BitVec.ofInt IntKind.u64.bits (4294967295:Int)).toNat=4294967295:=by decide
 obtain⟨k,hk⟩:∃k,k=(BitVec.ofInt IntKind.u64.bits (n:Int) &&& BitVec.ofInt IntKind.u64.bits 4294967295).toNat:=⟨_,rfl⟩
 have hle:k≤4294967295:=by
  rw[hk,BitVec.toNat_and,e1]
  exact Nat.and_le_right
 refine⟨k,?_,ai,fun hn=>?_⟩
 ·grind [AN,cT,gm]
 ·rw[hk,BitVec.toNat_and,e1]
  have e2:(BitVec.ofInt IntKind.u64.bits (n:Int)).toNat=n:=by
   grind
  rw[e2,show(4294967295:Nat)=2 ^ 32-1 from rfl,Nat.and_two_pow_sub_one_eq_mod]
  grind
attribute [local irreducible] J K aq Ends ag aI aC bF aW aP a6 aZ bN Sha.chunks Sha.chunk Sha.rounds Sha.sched fg cD fR AN
def nq(X:HP)(v:Value)(b:List UInt8)(hb:fb X v b)(hl:b.length≤1000000) :
  aq Tryz.prog 128 [v] [X] (fun r H=>H=[X]∧∃k:Nat,k<4294967296∧r = .tuple #[.int .i64 (k:Int),.bool (o8 b).isSome]∧∀m,o8 b=some m→k=m):=by
 have htu:=j6 X v b hb ai
 refine aq.aj Tryz.func128 Tryz.ntmps128 fun G F R hE=>?_
 refine go ?_
 refine aw htu ?_
 unfold o8 at hE
 cases hu:cO b with
 | none =>
  rw[hu]at hE
  obtain⟨k,Ix,DK,_⟩:=xq 0
  refine go ?_
  ((refine aD 12 ((.int .u64 (k:Int))) rfl ((congrArg (Value.int .u64) (by rw[← Ix];unfold AN;rfl))) ?_))
  refine go ?_
  (refine ad hE Tryz.func128 zr zr ⟨rfl,k,DK,rfl,fun m h=>by cases h⟩)
 | some n =>
  rw[hu]at hE
  simp only[Option.bind_some]at hE ⊢
  obtain⟨k,Ix,DK,hk3⟩:=xq n
  refine go ?_
  ((refine aD 12 ((.int .u64 (k:Int))) rfl ((congrArg (Value.int .u64) (by rw[← Ix];unfold AN;rfl))) ?_))
  refine go ?_
  by_cases hn:n≤1048576
  ·rw[if_pos hn]at hE
   refine aV 3 ((.bool true)) rfl ((congrArg Value.bool (decide_eq_true ai))) (go ?_)
   ((refine ad hE Tryz.func128 zr zr ⟨rfl,k,DK,rfl,fun m h=>by injection h with h;rw[← h];exact hk3 hn⟩))
  ·rw[if_neg hn]at hE
   refine aV 3 ((.bool false)) rfl ((congrArg Value.bool (decide_eq_false ai))) (go ?_)
   (refine ad hE Tryz.func128 zr zr ⟨rfl,k,DK,rfl,fun m h=>by cases h⟩)
def qP(X:HP)(v:Value)(b:List UInt8)(hb:fb X v b)(hl:b.length≤1000000) :
  aq Tryz.prog 129 [v] [X] (fun r H=>H=[X]∧r = .tuple #[dV ((fU b).getD Dg.zero),.bool (fU b).isSome]):=by
 obtain⟨dt,a,c,rfl,hc⟩:=hb
 refine aq.aj Tryz.func129 Tryz.ntmps129 fun G F R hE=>?_
 refine aH rfl ?_
 refine az zr zr zr bh ?_
 intro b2
 unfold fU at hE
 refine go ?_
 refine au zr zr ?_ ?_
 ·intro fy
  rw[if_neg ai]at hE
  refine go ?_
  refine gG (U:=aU) zr zr zr zr zr (go ?_)
  (refine bg hE ?_;apply a7 (U:=aU) hE Tryz.func129 rfl (ao.refl _);(repeat(first|exact aQ.nil|apply aQ.tmp rfl|apply aQ.agg 0 zr zr zr zr zr));exact⟨rfl,rfl⟩;exact ah)
 ·intro heq
  have h32:b.length=32:=by omega
  rw[if_pos h32]at hE
  rw[uQ h32]at dt
  obtain⟨bb,oo,cc,he⟩:=dt.some (by intro h;have:=congrArg List.length h;rw[nP]at this;cases this)
  obtain⟨rfl,rfl⟩:=he
  refine go ?_
  refine yn (U:=aU) zr zr zr zr ai (go ?_)
  refine aT ?_
  refine bW (U:=aU) (es:=dC (sF b)) 1 0 zr zr zr dt rfl (fun j v hj=>by rw[Nat.zero_add];exact hj) zr zr zr ?_
  refine go ?_
  (refine bg hE ?_;apply a7 (U:=aU) hE Tryz.func129 rfl (ao.refl _);(repeat(first|exact aQ.nil|apply aQ.tmp rfl|apply aQ.agg 0 zr zr zr zr zr));exact⟨rfl,rfl⟩;exact ah)
def CY{b:List UInt8}(h:oI b=none):iH b=none:=by unfold iH;rw[h]
theorem AA{b:List UInt8}{xs:List (Int × List UInt8)}(h:oI b=some xs)(hl:xs.length<2):iH b=none:=by
 grind [iH]
theorem Gj{b:List UInt8}{n1 n2:Int}{b1 b2:List UInt8}{l:List (Int × List UInt8)}{n:Int}(h:oI b=some ((n1,b1)::(n2,b2)::l))(hn:(((n1,b1)::(n2,b2)::l).getLast?.map (·.1))=some n) :
  iH b=if n=((2+l.length:Nat):Int)∧b1.length=1∧b2.length=32 then some (b1.headD 0,sF b2,l.map (·.2))else none:=by
 grind [iH]
def su.ofP{X:HP}{a:Option Addr}{c:Nat}{ls:List (List UInt8)}{cs:List Value}(hv:Vw (aI 38 1 (.slice a ls.length c) ls.length cs) (.slice a ls.length c) ls.length cs)(hc:ls.length≤c)(hl:cs.length=ls.length)(jA:∀(j:Nat) (z:List UInt8),ls[j]?=some z→∃cv,cs[j]?=some cv∧fb X cv z):su (Sep [aI 38 1 (.slice a ls.length c) ls.length cs,X]) (.slice a ls.length c) ls :=
  ⟨cs,hv.mono (bz (i:=0) rfl),hl,⟨a,c,rfl,hc⟩,fun i x hx=>by
    obtain⟨cv,h1,h2⟩:=jA i x hx
    exact⟨cv,h1,h2.mono (bz (i:=1) rfl)⟩⟩
def Bo(l:List It):l.map It.v=l.flatMap fun x=>[x.v]:=by induction l with|nil=>rfl|cons x l ih=>simp[ih]
theorem Gl(X:HP)(v:Value)(b:List UInt8)(hb:fb X v b)(hl:b.length≤1000000) :
  aq Tryz.prog 126 [v] [X] (fun r H=>(iH b=none∧(∃(k:UInt8) (d:Dg) (a:Option Addr) (n c:Nat),r = .tuple #[u8 k,dV d,.slice a n c,.bool false])∧H=[X]) ∨
   ∃k d more mv Z,iH b=some (k,d,more)∧su Z mv more∧(∀x∈more,x.length≤65536)∧more.length≤65536∧r = .tuple #[u8 k,dV d,mv,.bool true]∧H=[Z,X]):=by
 have WM:=kY X v b hb ai
 obtain⟨a,c,rfl,hc⟩:=hb.2
 refine aq.aj Tryz.func126 Tryz.ntmps126 fun G F R hE=>?_
 refine aH rfl (go ?_)
 refine az zr zr zr bh ?_
 intro b3
 refine go ?_
 refine aF WM ?_
 rintro _ _ (⟨hn,rfl,rfl⟩|⟨xs,dR,Z0,rv,hs,pk,⟨dt,sR⟩,rfl,rfl,ra,rc,rfl,N6⟩)
 ·have hd:=CY hn
  refine go ?_
  refine gG (U:=aU) zr zr zr zr zr (go ?_)
  (refine bg hE ?_;apply a7 (U:=aU) hE Tryz.func126 rfl (ao.refl _);(repeat(first|exact aQ.nil|apply aQ.tmp rfl|apply aQ.agg 1 zr zr zr zr zr));exact(.inl ⟨hd,⟨0,Dg.zero,none,0,0,rfl⟩,rfl⟩);exact ah)
 have YJ:=pI hs
 have Dz:dR.length≤65536:=by
  have h1:xs.length≤65536:=by
   unfold oI at hs
   split at hs
   ·cases hs
   ·split at hs
    ·cases hs
     have:=pH _ b (Nat.le_refl _)
     grind [dy]
    ·cases hs
  grind
 by_cases h2:dR.length<2
 ·have hd:=AA hs (by rw[← pk,List.length_map];exact h2)
  refine go ?_
  refine aD 25 ((.bool true)) rfl ((congrArg Value.bool (decide_eq_true ai))) (go ?_)
  refine gG (U:=aU) zr zr zr zr zr (go ?_)
  (refine bg hE ?_;apply a7 (U:=aU) hE Tryz.func126 rfl (ao.refl _);(repeat(first|exact aQ.nil|apply aQ.tmp rfl|apply aQ.agg 2 zr zr zr zr zr));exact(.inl ⟨hd,⟨0,Dg.zero,none,0,0,rfl⟩,rfl⟩);exact ah)
 obtain⟨i1,i2,rest,v7⟩:∃i1 i2 rest,dR=i1::i2::rest:=by
  match dR,h2 with
  | i1::i2::rest,_=>exact⟨i1,i2,rest,rfl⟩
  | [],h=>exact absurd (by simp) h
  | [_],h=>exact absurd (by simp) h
 have hlen:dR.length=rest.length+2:=by rw[v7];rfl
 obtain⟨lst,VI⟩:∃x,dR[rest.length+1]?=some x:=⟨dR[rest.length+1]' ai,by simp⟩
 have kG:((dR.map It.p).getLast?.map (·.1))=some lst.n:=by
  rw[List.getLast?_eq_getElem?,List.length_map,List.getElem?_map,show dR.length-1=rest.length+1 from by omega,VI]
  rfl
 obtain⟨rb,ro,rcc,he⟩:=dt.some (by rw[v7];intro h;simp[jJ]at h)
 simp only[Value.slice.injEq,true_and]at he
 obtain⟨rfl,rfl⟩:=he
 have L3:dR[0]?=some i1:=by rw[v7];rfl
 have Kw:dR[1]?=some i2:=by rw[v7];rfl
 have oR:=sR i1 (List.mem_of_getElem? L3)
 have mN:=sR i2 (List.mem_of_getElem? Kw)
 have ux:(dR.flatMap jJ)[0*2+1]?=some i1.v:=ck gJ L3 1 ai
 have NZ:(dR.flatMap jJ)[1*2+1]?=some i2.v:=ck gJ Kw 1 ai
 have lg:(dR.flatMap jJ)[(rest.length+1)*2+0]?=some (.int .i64 lst.n):=ck gJ VI 0 ai
 have Zf:=YJ i2.p (by rw[← pk];exact List.mem_map.2 ⟨_,List.mem_of_getElem? Kw,rfl⟩)
 obtain⟨n1,v1,b1⟩:=i1
 obtain⟨n2,v2,b2⟩:=i2
 simp only at oR mN ux NZ
 obtain⟨a1,c1,rfl,W1⟩:=oR.2
 obtain⟨a2,c2,rfl,W0⟩:=mN.2
 simp only[It.p]at Zf
 have hre:=Gj (n1:=n1) (b1:=b1) (n2:=n2) (b2:=b2) (l:=rest.map It.p) (n:=lst.n) (by rw[hs,← pk,v7];rfl) (by rw[v7]at kG;exact kG)
 rw[List.length_map]at hre
 refine go ?_
 refine aD 25 ((.bool false)) rfl ((congrArg Value.bool (decide_eq_false ai))) (go ?_)
 refine bX (rest.length+1) 2 zr zr zr zr zr zr zr ai ai (go ?_)
 refine aT ?_
 refine aN 0 ((rest.length+1)*2+0) zr zr zr dt (Nat.add_assoc _ _ _) lg zr zr (go ?_)
 by_cases VJ:lst.n=((2+rest.length:Nat):Int)
 case neg =>
  have hd:iH b=none:=by rw[hre,if_neg (fun h=>VJ h.1)]
  refine aD 37 ((.bool true)) rfl ((congrArg Value.bool (decide_eq_true ai))) (go ?_)
  refine gG (U:=aU) zr zr zr zr zr (go ?_)
  (refine bg hE ?_;apply a7 (U:=aU) hE Tryz.func126 rfl (ao.refl _);(repeat(first|exact aQ.nil|apply aQ.tmp rfl|apply aQ.agg 2 zr zr zr zr zr));exact(.inl ⟨hd,⟨0,Dg.zero,none,0,0,rfl⟩,rfl⟩);exact ah)
 refine aD 37 ((.bool false)) rfl ((congrArg Value.bool (decide_eq_false ai))) (go ?_)
 refine bX 0 2 zr zr zr zr zr zr zr zr ai (go ?_)
 refine aT ?_
 refine aN 0 (0*2+1) zr zr zr dt (Nat.add_assoc _ _ _) ux zr zr (go ?_)
 by_cases h1l:b1.length=1
 case neg =>
  have hd:iH b=none:=by rw[hre,if_neg (fun h=>h1l h.2.1)]
  refine aV 44 ((.bool true)) rfl ((congrArg Value.bool (decide_eq_true ai))) (go ?_)
  refine gG (U:=aU) zr zr zr zr zr (go ?_)
  (refine bg hE ?_;apply a7 (U:=aU) hE Tryz.func126 rfl (ao.refl _);(repeat(first|exact aQ.nil|apply aQ.tmp rfl|apply aQ.agg 2 zr zr zr zr zr));exact(.inl ⟨hd,⟨0,Dg.zero,none,0,0,rfl⟩,rfl⟩);exact ah)
 obtain⟨kb,rfl⟩:∃k,b1=[k]:=by
  match b1,h1l with
  | [k],_=>exact⟨k,rfl⟩
 refine aV 44 ((.bool false)) rfl ((congrArg Value.bool (decide_eq_false (by simp)))) (go ?_)
 refine bX 1 2 zr zr zr zr zr zr zr zr ai (go ?_)
 refine aT ?_
 refine aN 0 (1*2+1) zr zr zr dt (Nat.add_assoc _ _ _) NZ zr zr (go ?_)
 refine aw (qP Z0 _ b2 mN ai) ?_
 unfold dV
 refine go ?_
 refine az zr zr zr bh ?_
 intro b8
 refine go ?_
 refine bu (p:=2) (q:=(dR.length:Int)) zr zr zr zr zr zr zr ai ai (.inl rfl) ?_
 ((refine aD 55 ((.slice (sliceAt (some ⟨rb,ro,none⟩) rc 2 2) rest.length (rc-2))) rfl ((by rw[show(dR.length:Int).toNat=rest.length+2 from by omega,show(2:Int).toNat=2 from rfl,show rest.length+2-2=rest.length by omega];rfl)) ?_))
 have yX:=dt.Hr (s:=2) (bI gJ _) N6 2 ai
 have WY:(dR.flatMap jJ).drop (2*2)=rest.flatMap jJ:=by rw[v7];rfl
 rw[WY,show dR.length-2=rest.length from by omega]at yX
 have Zt:∀x∈rest,fb Z0 x.v x.b:=fun x hx=>sR x (by rw[v7];simp[hx])
 have hxr:∀x∈rest,x.b.length≤65536:=fun x hx=>YJ x.p (by rw[← pk,v7];simp;right;right;exact⟨x,hx,rfl⟩)
 clear NZ lg VI kG L3 Kw hs pk sR YJ v7
 refine go ?_
 refine ak (bj 38 1 none _) ?_
 obtain⟨dh,hdh⟩:∃d,d=(fU b2).getD Dg.zero:=⟨_,rfl⟩
 rw[← hdh]
 refine bn (fun y:Nat × Option Addr × Nat=>y.1≤rest.length) (fun y=>rest.length-y.1)
  (fun y=>[(3,ptr b3),(6,.slice (some ⟨rb,ro,none⟩) dR.length rc),(8,ptr b8),(9,.bool (fU b2).isSome),(10,.slice y.2.1 y.1 y.2.2),(55,.slice (sliceAt (some ⟨rb,ro,none⟩) rc 2 2) rest.length (rc-2)),(56,.int .i64 (rest.length:Int)),(57,.int .i64 (y.1:Int))])
  (fun y=>aI 38 1 (.slice y.2.1 y.1 y.2.2) y.1 ((rest.take y.1).flatMap fun x=>[x.v])::Z0::X::ag b3 (cl (dC Dg.zero) 36)::ag b8 (cl (dC dh) 36)::F) (0,none,0) (Nat.zero_le _) rfl bQ ah ?_
 rintro⟨j,ma,mc⟩ hj ih
 simp only at hj
 dsimp only
 refine go ?_
 refine au zr zr ?_ ?_
 ·intro cq
  have nC:j<rest.length:=by omega
  obtain⟨it,G0⟩:∃x,rest[j]?=some x:=⟨rest[j],by simp⟩
  have G8:=Zt it (List.mem_of_getElem? G0)
  obtain⟨xn,xv,xb⟩:=it
  simp only at G8
  obtain⟨va,vc,rfl,_⟩:=G8.2
  have Vx:sliceAt (some ⟨rb,ro,none⟩) rc 2 2=some ⟨rb,ro+4,none⟩:=by
   unfold sliceAt
   rw[if_neg ai]
   rfl
  rw[Vx]at yX
  refine aV 55 (.slice (some ⟨rb,ro+4,none⟩) rest.length (rc-2)) rfl (by rw[Vx]) (go ?_)
  refine bX j 2 zr zr zr zr zr zr zr zr nC ?_
  refine aT ?_
  refine bW (U:=aU) (es:=jJ ⟨xn,.slice va xb.length vc,xb⟩) 1 (j*2) zr zr zr yX rfl (fun q v hq=>?_) zr zr zr ?_
  ·rw[ck gJ G0 q (by rcases Nat.lt_or_ge q 2 with h|h;exact h;rw[List.getElem?_eq_none (by rw[gJ];exact h)]at hq;cases hq)];exact hq
  refine az zr zr zr bh ?_
  intro b12
  refine go ?_
  refine al (cs:=[.slice va xb.length vc]) zr zr zr zr zr zr zr zr zr bh ?_
  intro row
  refine go ?_
  have ki:(rest.take (j+1)).flatMap (fun x=>[x.v])=(rest.take j).flatMap (fun x=>[x.v])++[.slice va xb.length vc]:=by rw[List.take_add_one,G0];simp
  refine aO (mm:=1) (news:=[.slice va xb.length vc]) 2 0 rfl rfl rfl rfl rfl rfl rfl rfl rfl rfl rfl rfl (Vw.ag rfl) rfl (by intro v hv;simp at hv;rw[hv];rfl) ai (by show(_+_)*24≤_;omega) (fun _=>rfl) bh ?_
  intro v1
  rw[← ki]
  refine aL 2 rfl ?_
  rintro ja jc rfl
  refine go ?_
  refine aV 55 ((.slice (sliceAt (some ⟨rb,ro,none⟩) rc 2 2) rest.length (rc-2))) rfl ((by rw[Vx])) ?_
  refine aK ih (j+1,ja,jc) rfl (by simp only;omega) (by simp only;omega) bQ ah
 ·intro ek
  have MX:j=rest.length:=by omega
  subst MX
  rw[List.take_length]
  clear ih
  obtain⟨bb1,oo1,cc1,Of⟩:=oR.1.some (by simp[bV])
  simp only[Value.slice.injEq,true_and]at Of
  obtain⟨rfl,rfl⟩:=Of
  have lB:Vw Z0 (.slice (some ⟨bb1,oo1,none⟩) 1 c1) 1 (bV [kb]):=oR.1
  have sE:(rest.map It.b).length=rest.length:=List.length_map ..
  refine nX 0 rfl ?_
  intro gg
  refine eu 0 rfl ?_
  intro vH
  have lE:su (Sep [aI 38 1 (.slice ma rest.length mc) rest.length (rest.flatMap fun x=>[x.v]),Z0]) (.slice ma rest.length mc) (rest.map It.b):=by
   rw[← sE]at vH gg ⊢
   refine su.ofP vH gg (by rw[← Bo];simp) (fun i z hz=>?_)
   rw[List.getElem?_map]at hz
   cases hx:rest[i]? with
   | none=>rw[hx]at hz;cases hz
   | some y =>
    rw[hx]at hz
    injection hz with hz
    subst hz
    exact⟨y.v,by rw[← Bo,List.getElem?_map,hx];rfl,Zt y (List.mem_of_getElem? hx)⟩
  have hmb:(rest.map It.p).map (·.2)=rest.map It.b:=by rw[List.map_map];rfl
  rw[hmb]at hre
  have hdd:∀d,fU b2=some d→iH b=some (kb,d,rest.map It.b):=fun d hd=>by
   grind [fU]
  have lO:fU b2=none→iH b=none:=fun hd=>by
   grind [fU]
  refine go ?_
  refine aJ (fun w=>Sat G w ([Z0,ag b8 (cl (dC dh) 36)])) (cM 0 10 (.act 10 (.st 11 (.st 12 .nil)))) rfl ae ae ae cY ?_
  refine go ?_
  refine bX 0 2 zr zr zr zr zr zr zr zr ai (go ?_)
  refine aT ?_
  refine dp 0 (0*2+1) zr zr zr dt (Nat.add_assoc _ _ _) ux zr zr (go ?_)
  refine bC 0 zr zr zr zr zr zr zr zr (by simp) (go ?_)
  refine aT ?_
  refine dp 0 0 zr zr zr lB zr zr zr zr (go ?_)
  refine df (U:=aU) (l:=dC dh) 1 zr zr zr zr zr zr (go ?_)
  refine aY ?_
  refine fp (U:=aU) (l':=dC dh) 3 cY rfl rfl rfl rfl (by intro e;cases e) (by rw[eG];exact lJ _) rfl rfl rfl ?_
  refine go ?_
  refine ak (H':=Sep [aI 38 1 (.slice ma rest.length mc) rest.length (rest.flatMap fun x=>[x.v]),Z0]::X::ag b3 (cl (dC dh) 36)::ag b8 (cl (dC dh) 36)::F) (ao.trans ah (ao.cd [aI 38 1 (.slice ma rest.length mc) rest.length (rest.flatMap fun x=>[x.v]),Z0] _)) ?_
  cases Zx:fU b2 with
  | none =>
   simp only[Option.isSome_none]
   (refine bg hE ?_;apply a7 (U:=aU) hE Tryz.func126 rfl (ao.refl _);(repeat(first|exact aQ.nil|apply aQ.tmp rfl|apply aQ.agg 2 zr zr zr zr zr));exact(.inl ⟨lO Zx,⟨kb,dh,_,_,_,rfl⟩,rfl⟩);exact ah)
  | some d =>
   rw[Zx]at hdh
   simp only[Option.getD_some]at hdh
   subst hdh
   simp only[Option.isSome_some]
   (refine bg hE ?_;apply a7 (U:=aU) hE Tryz.func126 rfl (ao.refl _);(repeat(first|exact aQ.nil|apply aQ.tmp rfl|apply aQ.agg 2 rfl rfl rfl rfl rfl));exact(.inr ⟨kb,dh,_,_,_,hdd dh Zx,lE,(fun x hx=>by obtain⟨y,hy,rfl⟩:=List.mem_map.1 hx;exact hxr y hy),ai,rfl,rfl⟩);exact ah)
end Go.Proofs.YtnkfkabokmcgoaaGreatDoor
namespace Go.Proofs.YtnkfkabokmcgoaaGreatDoor
open Go Go.SL
def tJ(n i:Nat):Int:=match jx n i with
 | some s=>(s:Int)
 | none => -1
theorem IB(n:Nat):n ^^^ 1=if n%2=1 then n-1 else n+1:=by
 have h1:=Nat.xor_div_two (a:=n) (b:=1)
 have h2:(n ^^^ 1)%2=(n+1)%2:=by
  rcases Nat.mod_two_eq_zero_or_one n with h|h
  ·have:=(Nat.xor_mod_two_eq_one (a:=n) (b:=1)).2 (by simp[h])
   omega
  ·have:=(Nat.xor_mod_two_eq_one (a:=n) (b:=1))
   grind
 grind
theorem IC(n:Nat)(h:n<1000000000):IntKind.i64.wrap ((BitVec.ofInt IntKind.i64.bits (n:Int) ^^^ BitVec.ofInt IntKind.i64.bits 1).toNat:Int)=((if n%2=1 then n-1 else n+1:Nat):Int):=by
 grind [yS,IB,cT,gm]
def bw:Nat→Nat→Nat→List (Nat × Nat)
 | 0,_,_=>[]
 | f+1,n,i=>if n≤1 then []else(n,i)::bw f ((n+1)/2) (i/2)
def pT:∀(f g n i:Nat),n≤f→n≤g→bw f n i=bw g n i
 | 0,0,_,_,_,_=>rfl
 | 0,g+1,n,i,hf,_=>by
  obtain rfl:n=0:=by omega
  rfl
 | f+1,0,n,i,_,hg=>by
  obtain rfl:n=0:=by omega
  rfl
 | f+1,g+1,n,i,hf,hg=>by
  unfold bw
  split
  ·rfl
  ·rw[pT f g ((n+1)/2) (i/2) ai ai]
theorem yL(f n i:Nat)(hf:n≤f)(hn:1<n):bw f n i=(n,i)::bw f ((n+1)/2) (i/2):=by
 rw[pT f (f+1) n i hf ai]
 grind [bw]
def AD(f n i:Nat)(hn:n≤1):bw f n i=[]:=by
 cases f with
 | zero=>rfl
 | succ f=>unfold bw;rw[if_pos hn]
theorem o6:∀(f n i:Nat),i<n→∀p∈bw f n i,p.2<p.1∧p.1≤n
 | 0,_,_,_,p,h=>by cases h
 | f+1,n,i,hi,p,h=>by
  unfold bw at h
  split at h
  ·cases h
  ·rcases List.mem_cons.1 h with rfl|h
   ·grind
   ·obtain⟨h1,h2⟩:=o6 f ((n+1)/2) (i/2) ai p h
    grind
def lI(l:List (Nat × Nat)):Nat:=(l.filter fun p=>(jx p.1 p.2).isSome).length
theorem Bw(l:List (Nat × Nat))(p:Nat × Nat):lI (l++[p])=lI l+if(jx p.1 p.2).isSome then 1 else 0:=by
 grind [lI,jx]
theorem q9:∀(f n i:Nat),nO f n i=lI (bw f n i)
 | 0,_,_=>rfl
 | f+1,n,i=>by
  unfold nO bw
  split
  ·rfl
  ·rw[q9 f]
   grind [lI,jx]
def tF(z:Dg × List Dg)(p:Nat × Nat):Dg × List Dg:=match jx p.1 p.2 with
 | none=>z
 | some s=>(if s<p.2 then nw (z.2.headD Dg.zero) z.1 else nw z.1 (z.2.headD Dg.zero),z.2.tail)
def nR(l:List (Nat × Nat))(z:Dg × List Dg):Dg × List Dg:=l.foldl tF z
def KQ(l:List (Nat × Nat))(p:Nat × Nat)(z:Dg × List Dg):nR (l++[p]) z=tF (nR l z) p:=by unfold nR;rw[List.foldl_append];rfl
theorem ri:∀(f n i:Nat) (x:Dg) (p:List Dg),uX f n i x p=(nR (bw f n i) (x,p)).1
 | 0,_,_,_,_=>rfl
 | f+1,n,i,x,p=>by
  unfold uX bw
  split
  ·rfl
  ·unfold nR
   rw[List.foldl_cons]
   unfold tF
   cases h:jx n i with
   | none=>simp only;exact ri f _ _ _ _
   | some s=>simp only;exact ri f _ _ _ _
theorem Bz:∀(l:List (Nat × Nat)) (z:Dg × List Dg),(nR l z).2.length=z.2.length-lI l
 | [],z=>rfl
 | p::l,z=>by
  have:=Bz l (tF z p)
  grind [nR,tF,lI,jx]
theorem FC(l:List (Nat × Nat))(j:Nat):lI (l.take j)≤lI l:=by
 conv=>rhs;rw[← List.take_append_drop j l]
 grind [lI]
attribute [local irreducible] J K aq Ends ag aI aC bF aW aP a6 aZ bN Sha.chunks Sha.chunk Sha.rounds Sha.sched fg cD fR nw
def jU(n i:Int):Bool:=decide (1≤n∧n≤1024∧0≤i∧i<n)
def uh(n i:Int):aq Tryz.prog 325 [.int .i64 n,.int .i64 i] [] (fun r H=>r = .bool (jU n i)∧H=[]):=by
 have hF:(¬(1≤n∧n≤1024∧0≤i))→Value.bool false = .bool (jU n i):=fun h=>by unfold jU;rw[decide_eq_false ai]
 have hT:(1≤n∧n≤1024∧0≤i)→Value.bool (decide (i<n)) = .bool (jU n i):=fun h=>by unfold jU;exact congrArg Value.bool (decide_eq_decide.2 ai)
 refine aq.aj Tryz.func325 Tryz.ntmps325 fun G F R hE=>?_
 repeat'(first|(with_reducible intro iI)|refine fq ?_|refine dw zr zr zr zr ?_ ?_|fail)
 all_goals(first|((refine ad hE Tryz.func325 zr zr ⟨hF ai,rfl⟩))|((refine ad hE Tryz.func325 zr zr ⟨hT ai,rfl⟩)))
theorem u5(n i:Nat)(hi:i<n)(hn:n≤1000000):aq Tryz.prog 327 [.int .i64 (n:Int),.int .i64 (i:Int)] [] (fun r H=>r = .int .i64 (tJ n i)∧H=[]):=by
 refine aq.aj Tryz.func327 Tryz.ntmps327 fun G F R hE=>?_
 have hx:=IC i ai
 refine go ?_
 refine au zr zr ?_ ?_
 ·intro cq
  have hs:tJ n i=((if i%2=1 then i-1 else i+1:Nat):Int):=by
   grind [tJ,jx]
  refine go ?_
  refine ad hE Tryz.func327 zr zr ⟨congrArg (Value.int .i64) (hx.trans hs.symm),rfl⟩
 ·intro ek
  have hs:tJ n i = -1:=by
   grind [tJ,jx]
  refine go ?_
  refine ad hE Tryz.func327 zr zr ⟨congrArg (Value.int .i64) hs.symm,rfl⟩
def tZ(n i:Int):aq Tryz.prog 326 [.int .i64 n,.int .i64 i] [] (fun r H=>∃b1 b2,r = .func (.func 392) #[] #[ptr b1,ptr b2]∧H=[ag b1 (cl [.int .i64 n] 3),ag b2 (cl [.int .i64 i] 3)]):=by
 refine aq.aj Tryz.func326 Tryz.ntmps326 fun G F R hE=>?_
 refine aH rfl ?_
 refine bp zr zr bh ?_
 intro b1
 refine bp zr zr bh ?_
 intro b2
 refine go ?_
 refine ad hE Tryz.func326 zr zr ⟨b1,b2,rfl,rfl⟩
theorem rP(b1 b2 n i:Nat)(hn:n≤1000000)(hi:i≤1000000)(l:Nat)(Lp:HP)(Inv:Nat→HP)(hy:∀j p,(bw n n i)[j]?=some p→bN Tryz.prog l [.int .i64 (p.1:Int),.int .i64 (p.2:Int)] [Lp,Inv j] (fun v H=>v = .bool true∧H=[Lp,Inv (j+1)])) :
  aq Tryz.prog 392 [.func (.yield l) #[] #[],ptr b1,ptr b2] [Lp,Inv 0,ag b1 (cl [.int .i64 (n:Int)] 3),ag b2 (cl [.int .i64 (i:Int)] 3)] (fun _ H=>H=[Lp,Inv (bw n n i).length]):=by
 refine aq.aj Tryz.func392 Tryz.ntmps392 fun G F R hE=>?_
 refine bn (fun y:Nat × Nat × Nat=>y.1≤n∧y.2.1≤i∧(bw n n i).drop y.2.2=bw n y.1 y.2.1∧y.2.2≤(bw n n i).length) (fun y=>y.1)
  (fun _=>[(0,.func (.yield l) #[] #[]),(1,ptr b1),(2,ptr b2)])
  (fun y=>Lp::Inv y.2.2::ag b1 (cl [.int .i64 (y.1:Int)] 3)::ag b2 (cl [.int .i64 (y.2.1:Int)] 3)::F) (n,i,0) ⟨Nat.le_refl _,Nat.le_refl _,rfl,Nat.zero_le _⟩ rfl bQ ah ?_
 rintro⟨m,k,j⟩⟨hm,hk,hd,hj⟩ ih
 simp only at hm hk hd hj
 refine go ?_
 refine au zr zr ?_ ?_
 ·intro L2
  have VT:1<m:=by omega
  rw[yL n m k hm VT]at hd
  have hx:(bw n n i)[j]?=some (m,k):=by
   have:=congrArg (fun l=>l[0]?) hd
   grind
  have Fh:=(List.getElem?_eq_some_iff.1 hx).1
  have Oi:(bw n n i).drop (j+1)=bw n ((m+1)/2) (k/2):=by
   have:=congrArg (fun l=>l.drop 1) hd
   simpa[List.drop_drop]using this
  refine go ?_
  refine iW zr zr zr (hy j (m,k) hx) ah ?_ iE
  rintro _ _⟨rfl,rfl⟩
  refine go ?_
  refine ak (H':=ag b1 (cl [.int .i64 (m:Int)] 3)::ag b2 (cl [.int .i64 (k:Int)] 3)::Lp::Inv (j+1)::F) ah ?_
  refine aJ (fun w=>Sat G w ([])) (.fork (.act 0 (.st 1 (.st 2 (.fork (.act 3 (.st 4 (.act 5 (.act 6 .nil)))) (.act 5 (.act 3 (.st 4 (.act 6 .nil)))))))) (.act 3 (.st 4 (.act 0 (.st 1 (.st 2 (.act 5 (.act 6 .nil)))))))) rfl ae ae ae cY ?_
  repeat'(first|refine fq ?_|refine od ?_ ?_|(refine mu ?_;refine iA zr zr zr ai ?_;first|(refine aD 8 (.int .i64 (((m+1)/2:Nat):Int)) rfl (congrArg (Value.int .i64) (by show((m:Int)+1)/2 ^ 1=_;omega)) ?_)|(refine aD 10 (.int .i64 ((k/2:Nat):Int)) rfl (congrArg (Value.int .i64) (by show(k:Int)/2 ^ 1=_;omega)) ?_))|(refine aY ?_;(refine bG 0 cY zr zr zr zr zr zr zr zr zr ?_)))
  all_goals(
   refine aK ih ((m+1)/2,k/2,j+1) rfl ⟨by simp only;omega,by simp only;omega,Oi,by simp only;omega⟩ (by simp only;omega) bQ ah)
 ·intro ek
  have hz:bw n m k=[]:=AD n m k ai
  have MX:j=(bw n n i).length:=by
   have:=congrArg List.length hd
   grind
  subst MX
  refine go ?_
  refine bB hE Tryz.func392 rfl _ zr zr ah
theorem yq(n i:Int):aq Tryz.prog 237 [.int .i64 n,.int .i64 i] [] (fun r H=>r = .int .i64 (iw n i:Int)∧H=[]):=by
 refine aq.aj Tryz.func237 Tryz.ntmps237 fun G F R hE=>?_
 refine go ?_
 refine az zr zr zr bh ?_
 intro b5
 refine go ?_
 refine aw (uh n i) ?_
 cases hr:jU n i with
 | false =>
  have hd:iw n i=0:=by
   grind [iw,jU]
  rw[hd]at hE
  refine go ?_
  refine ad hE Tryz.func237 zr zr ⟨rfl,rfl⟩
 | true =>
  have Iv:1≤n∧n≤1024∧0≤i∧i<n:=by unfold jU at hr;simpa using hr
  obtain⟨m,rfl⟩:∃m:Nat,n=m:=⟨n.toNat,ai⟩
  obtain⟨k,rfl⟩:∃m:Nat,i=m:=⟨i.toNat,ai⟩
  have hd:iw (m:Int) (k:Int)=lI (bw m m k):=by
   grind [iw,q9]
  have rZ:=o6 m m k ai
  have Oh:=rf (m:Int) (k:Int)
  rw[hd]at hE Oh
  refine go ?_
  refine aF (tZ (m:Int) (k:Int)) ?_
  rintro _ _⟨b1,b2,rfl,rfl⟩
  refine go ?_
  refine gT rfl ?_
  have M9:lI ((bw m m k).take 0)=0:=rfl
  refine vl (Fr:=F) (Pre:=fun _ _=>[ag b5 (cl [.int .i64 (lI ((bw m m k).take 0):Int)] 3),ag b1 (cl [.int .i64 (m:Int)] 3),ag b2 (cl [.int .i64 (k:Int)] 3)]) (fun _ _ Lp v H=>H=[Lp .ready none,ag b5 (cl [.int .i64 (lI ((bw m m k).take (bw m m k).length):Int)] 3)]) rfl hE.1.1 rfl ?c (fun l r=>ah) ?gR
  case c =>
   intro l r
   refine rP b1 b2 m k ai ai l _ (fun j=>ag b5 (cl [.int .i64 (lI ((bw m m k).take j):Int)] 3)) ?_
   rintro j⟨p,q⟩ hp
   obtain⟨h1,h2⟩:=rZ _ (List.mem_of_getElem? hp)
   have ki:(bw m m k).take (j+1)=(bw m m k).take j++[(p,q)]:=by rw[List.take_add_one,hp];rfl
   have Ol:lI ((bw m m k).take (j+1))=lI ((bw m m k).take j)+if(jx p q).isSome then 1 else 0:=by rw[ki,Bw]
   have mF:=FC (bw m m k) j
   refine bN.C' zr zr ?_
   intro G2 F2 R2 hY
   refine go ?_
   refine fm rfl hY (go ?_)
   refine aw (u5 p q h1 ai) ?_
   unfold tJ
   cases hs:jx p q with
   | none =>
    rw[hs]at Ol
    rw[Ol]at hY
    refine go ?_
    refine eE hY rfl ah ⟨rfl,rfl⟩
   | some s =>
    rw[hs]at Ol
    rw[Ol]at hY
    refine go ?_
    refine eE hY rfl ah ⟨rfl,rfl⟩
  rintro l r v H' rfl
  refine⟨_,_,_,rfl,by decide,?_⟩
  rw[hE.1.2,List.take_length]
  refine go ?_
  (apply a7 (U:=aU) hE Tryz.func237 rfl ah;(repeat(first|exact aQ.nil|apply aQ.tmp rfl));exact⟨rfl,rfl⟩;exact ah)
end Go.Proofs.YtnkfkabokmcgoaaGreatDoor
namespace Go.Proofs.YtnkfkabokmcgoaaGreatDoor
open Go Go.SL
def WE(b8 b9:Nat)(X:HP)(z:Dg × List Dg):HP:=fun h=>∃v:Value,LH X v z.2∧Sep [ag b8 (cl (dC z.1) 36),ag b9 (cl [v] 39),X] h
def Ce(b8 b9:Nat)(X:HP)(z:Dg × List Dg):∀h,WE b8 b9 X z h→∃v:Value,LH X v z.2∧Sep [ag b8 (cl (dC z.1) 36),ag b9 (cl [v] 39),X] h:=fun h hs=>hs
def zR{b8 b9:Nat}{X:HP}{z:Dg × List Dg}{v:Value}(hv:LH X v z.2)(H:List HP):ao (ag b8 (cl (dC z.1) 36)::ag b9 (cl [v] 39)::X::H) (WE b8 b9 X z::H) :=
 ao.fold (A:=WE b8 b9 X z) (B:=[ag b8 (cl (dC z.1) 36),ag b9 (cl [v] 39),X]) fun h hs=>⟨h,sub.refl h,v,hv,hs⟩
def LH.tail{X:HP}{a:Option Addr}{c:Nat}{x:Dg}{l:List Dg}(h:LH X (.slice a (x::l).length c) (x::l)):LH X (.slice (sliceAt a c 1 32) l.length (c-1)) l:=by
 obtain⟨hv,a',c',he,hc⟩:=h
 obtain⟨rfl,rfl⟩:=he
 have:=hv.Hr (s:=32) (bI nP _) hc 1 (by simp)
 exact⟨this,_,_,rfl,by simp only[List.length_cons]at hc;omega⟩
attribute [local irreducible] J K aq Ends ag aI aC bF aW aP a6 aZ bN Sha.chunks Sha.chunk Sha.rounds Sha.sched fg cD fR nw WE
theorem Ib(X:HP)(hK:pt X)(root leaf:Dg)(n i:Int)(pv:Value)(proof:List Dg)(hp:LH X pv proof) :
  aq Tryz.prog 243 [dV root,.int .i64 n,.int .i64 i,dV leaf,pv] [X] (fun r H=>r = .bool (mf root n i leaf proof)∧H=[X]):=by
 have GR:=hp
 obtain⟨hv,a,c,rfl,hc⟩:=hp
 refine aq.aj Tryz.func243 Tryz.ntmps243 fun G F R hE=>?_
 refine aH rfl ?_
 refine bp zr zr bh ?_
 intro b5
 refine bp zr zr bh ?_
 intro b8
 refine bp zr zr bh ?_
 intro b9
 refine go ?_
 refine aJ (fun w=>Sat G w ([ag b9 (cl [.slice a proof.length c] 39)])) (.st 0 (.st 1 (.act 2 (cM 3 6 (.act 9 (.st 10 (.st 11 .nil))))))) rfl ae ae ae cY ?_
 refine go ?_
 refine bP (uh n i) ?_
 cases hr:jU n i with
 | false =>
  have hcf:mf root n i leaf proof=false:=by
   grind [mf,jU]
  rw[hcf]at hE
  refine go ?_
  (refine bg hE ?_;apply a7 (U:=aU) hE Tryz.func243 rfl (ao.refl _);(repeat(first|exact aQ.nil|apply aQ.tmp rfl));exact⟨rfl,rfl⟩;exact ah)
 | true =>
  have Iv:1≤n∧n≤1024∧0≤i∧i<n:=by unfold jU at hr;simpa using hr
  refine go ?_
  refine bP (yq n i) ?_
  refine go ?_
  refine dj zr zr ?_ ?_
  ·intro fy
   have hcf:mf root n i leaf proof=false:=by
    grind [mf]
   rw[hcf]at hE
   refine go ?_
   (refine bg hE ?_;apply a7 (U:=aU) hE Tryz.func243 rfl (ao.refl _);(repeat(first|exact aQ.nil|apply aQ.tmp rfl));exact⟨rfl,rfl⟩;exact ah)
  intro heq
  have G5:proof.length=iw n i:=by
   grind
  obtain⟨m,rfl⟩:∃m:Nat,n=m:=⟨n.toNat,ai⟩
  obtain⟨k,rfl⟩:∃m:Nat,i=m:=⟨i.toNat,ai⟩
  have hd:iw (m:Int) (k:Int)=lI (bw m m k):=by
   grind [iw,q9]
  have rZ:=o6 m m k ai
  have hck:mf root (m:Int) (k:Int) leaf proof=decide ((nR (bw m m k) (leaf,proof)).1=root):=by
   grind [mf,ri]
  rw[hck]at hE
  refine go ?_
  refine aF (tZ (m:Int) (k:Int)) ?_
  rintro _ _⟨b1,b2,rfl,rfl⟩
  refine go ?_
  refine gT rfl ?_
  refine ak (ao.pick [3,2,5] rfl) ?_
  refine ak (zR (z:=nR ((bw m m k).take 0) (leaf,proof)) GR _) ?_
  refine vl (Fr:=ag b5 (cl (dC root) 36)::F) (Pre:=fun _ _=>[WE b8 b9 X (nR ((bw m m k).take 0) (leaf,proof)),ag b1 (cl [.int .i64 (m:Int)] 3),ag b2 (cl [.int .i64 (k:Int)] 3)]) (fun _ _ Lp v H=>H=[Lp .ready none,WE b8 b9 X (nR ((bw m m k).take (bw m m k).length) (leaf,proof))]) rfl hE.1.1 rfl ?c (fun l r=>ah) ?gR
  case c =>
   intro l r
   refine rP b1 b2 m k ai ai l _ (fun j=>WE b8 b9 X (nR ((bw m m k).take j) (leaf,proof))) ?_
   rintro j⟨p,q⟩ LW
   obtain⟨h1,h2⟩:=rZ _ (List.mem_of_getElem? LW)
   have ki:(bw m m k).take (j+1)=(bw m m k).take j++[(p,q)]:=by rw[List.take_add_one,LW];rfl
   have hcz:nR ((bw m m k).take (j+1)) (leaf,proof)=tF (nR ((bw m m k).take j) (leaf,proof)) (p,q):=by rw[ki,KQ]
   have WJ:=Bz ((bw m m k).take j) (leaf,proof)
   have Ol:lI ((bw m m k).take (j+1))=lI ((bw m m k).take j)+if(jx p q).isSome then 1 else 0:=by rw[ki,Bw]
   have mF:=FC (bw m m k) (j+1)
   rw[hcz]
   obtain⟨z,hz⟩:∃z,z=nR ((bw m m k).take j) (leaf,proof):=⟨_,rfl⟩
   rw[← hz]at WJ ⊢
   refine bN.C' zr zr ?_
   intro G F2 R2 hY
   unfold tF at hY
   obtain⟨x,prf⟩:=z
   refine go ?_
   refine fm rfl hY ?_
   refine ak (ao.pick [1] rfl) ?_
   refine cI (Ce b8 b9 X (x,prf)) ?_
   rintro v hdv
   refine go ?_
   refine aw (u5 p q h1 ai) ?_
   unfold tJ
   cases hs:jx p q with
   | none =>
    rw[hs]at Ol hY
    refine go ?_
    refine ak (zR (z:=(x,prf)) hdv _) ?_
    refine eE hY rfl ah ⟨rfl,rfl⟩
   | some s =>
    rw[hs]at Ol hY
    simp only[Option.isSome_some,if_true]at Ol
    simp only at hY ⊢
    simp only at WJ
    obtain⟨p0,rest,rfl⟩:∃p0 rest,prf=p0::rest:=by
     cases prf with
     | nil=>rw[List.length_nil]at WJ;exfalso;omega
     | cons p0 rest=>exact⟨p0,rest,rfl⟩
    obtain⟨dt,a1,c1,rfl,W1⟩:=hdv
    obtain⟨bb,oo,cc,he⟩:=dt.some (by rw[List.flatMap_cons];intro h;simp[dC]at h)
    obtain⟨rfl,rfl⟩:=he
    have zT:=LH.tail ⟨dt,_,_,rfl,W1⟩
    have ek:∀(q':Nat) (v:Value),(dC p0)[q']?=some v→((p0::rest).flatMap dC)[0+q']?=some v:=fun q' v hq=>by
     grind
    refine go ?_
    refine au zr zr ?_ ?_
    ·intro cq
     have GX:s<q:=by omega
     rw[if_pos GX]at hY
     refine go ?_
     refine aJ (fun w=>Sat G w ([ag b8 (cl (dC x) 36),ag b9 (cl [.slice (some ⟨bb,oo,none⟩) (p0::rest).length c1] 39),X])) (cM 0 4 (.act 4 (.act 5 .nil))) rfl ae ae ae cY ?_
     (repeat(first|refine fq ?_|refine bX 0 32 zr zr zr zr zr zr zr zr (by simp) ?_|refine df (U:=aU) (l:=dC x) 0 zr zr zr zr zr zr ?_|(refine aT ?_;refine ew (U:=aU) (es:=dC p0) 2 0 zr zr zr dt rfl ek zr zr zr ?_)))
     refine bP (BP X hK p0 x) ?_
     refine aY ?_
     refine fp (U:=aU) (l':=dC (nw p0 x)) 1 eW rfl rfl rfl rfl (by intro e;cases e) (by rw[eG];exact lJ _) rfl rfl rfl ?_
     refine go ?_
     refine bu (p:=1) (q:=((p0::rest).length:Int)) zr zr zr zr zr zr zr ai (by simp only[List.length_cons];omega) (.inl rfl) ?_
     ((refine aD 52 ((.slice (sliceAt (some ⟨bb,oo,none⟩) c1 1 32) rest.length (c1-1))) rfl ((by rw[show((p0::rest).length:Int).toNat=rest.length+1 from by simp[List.length_cons],show(1:Int).toNat=1 from rfl,show rest.length+1-1=rest.length by omega];rfl)) ?_))
     refine go ?_
     refine ak (ao.trans ah (zR (z:=(nw p0 x,rest)) zT _)) ?_
     refine eE hY rfl ah ⟨rfl,rfl⟩
    ·intro cq
     have GX:¬s<q:=by omega
     rw[if_neg GX]at hY
     refine go ?_
     refine aJ (fun w=>Sat G w ([ag b8 (cl (dC x) 36),ag b9 (cl [.slice (some ⟨bb,oo,none⟩) (p0::rest).length c1] 39),X])) (cM 0 4 (.act 4 (.act 5 .nil))) rfl ae ae ae cY ?_
     (repeat(first|refine fq ?_|refine bX 0 32 zr zr zr zr zr zr zr zr (by simp) ?_|refine df (U:=aU) (l:=dC x) 0 zr zr zr zr zr zr ?_|(refine aT ?_;refine ew (U:=aU) (es:=dC p0) 2 0 zr zr zr dt rfl ek zr zr zr ?_)))
     refine bP (BP X hK x p0) ?_
     refine aY ?_
     refine fp (U:=aU) (l':=dC (nw x p0)) 1 eW rfl rfl rfl rfl (by intro e;cases e) (by rw[eG];exact lJ _) rfl rfl rfl ?_
     refine go ?_
     refine bu (p:=1) (q:=((p0::rest).length:Int)) zr zr zr zr zr zr zr ai (by simp only[List.length_cons];omega) (.inl rfl) ?_
     ((refine aD 52 ((.slice (sliceAt (some ⟨bb,oo,none⟩) c1 1 32) rest.length (c1-1))) rfl ((by rw[show((p0::rest).length:Int).toNat=rest.length+1 from by simp[List.length_cons],show(1:Int).toNat=1 from rfl,show rest.length+1-1=rest.length by omega];rfl)) ?_))
     refine go ?_
     refine ak (ao.trans ah (zR (z:=(nw x p0,rest)) zT _)) ?_
     refine eE hY rfl ah ⟨rfl,rfl⟩
  rintro l r v H' rfl
  refine⟨_,_,_,rfl,by decide,?_⟩
  rw[hE.1.2,List.take_length]
  refine cI (Ce b8 b9 X _) ?_
  rintro v -
  refine go ?_
  refine aM (U:=aU) (l:=dC (nR (bw m m k) (leaf,proof)).1) 0 zr zr zr zr zr zr (go ?_)
  refine aM (U:=aU) (l:=dC root) 4 zr zr zr zr zr zr (go ?_)
  refine mw (b:=decide ((nR (bw m m k) (leaf,proof)).1=root)) zr zr zr KC (fun w=>KI _ root w) ?_
  refine go ?_
  (apply a7 (U:=aU) hE Tryz.func243 rfl ah;(repeat(first|exact aQ.nil|apply aQ.tmp rfl));exact⟨rfl,rfl⟩;exact ah)
def Dv(X:HP)(hK:pt X)(x:Bl)(i:Int)(bv:Value)(b:List UInt8)(hb:fb X bv b)(sT:b.length≤900000000)(pv:Value)(proof:List Dg)(hp:LH X pv proof) :
  aq Tryz.prog 142 [mH x,.int .i64 i,bv,pv] [X] (fun r H=>r = .bool (k7 x i b proof)∧H=[X]):=by
 have YW:=BK x i
 have V3:=rE x
 have hck:=Ib X hK x.root (fR b) (fk x) i pv proof hp
 have hlf:=Lh X hK bv b hb sT
 obtain⟨ba,bc,rfl,hbc⟩:=hb.2
 refine aq.aj Tryz.func142 Tryz.ntmps142 fun G F R hE=>?_
 refine aH rfl ?_
 refine bp zr zr bh ?_
 intro b4
 refine go ?_
 refine aM (U:=aU) (l:=dY x) 0 zr zr zr zr zr zr (go ?_)
 refine aw YW ?_
 unfold k7 at hE
 cases AZ:pN x i with
 | none =>
  rw[AZ]at hE
  refine go ?_
  refine aJ (fun w=>Sat G w ([ag b4 (cl (dY x) 107)])) (cM 0 12 (.st 13 (.st 14 (.st 16 (.act 12 (.act 15 (.act 17 (.st 18 (.st 19 .nil))))))))) rfl ae ae ae cY ?_
  refine go ?_
  refine ad hE Tryz.func142 zr zr ⟨rfl,rfl⟩
 | some w =>
  obtain⟨at_,n⟩:=w
  rw[AZ]at hE
  simp only at hE ⊢
  refine go ?_
  refine aJ (fun w=>Sat G w ([ag b4 (cl (dY x) 107)])) (cM 0 12 (.st 13 (.st 14 (.st 16 (.act 12 (.act 15 (.act 17 (.st 18 (.st 19 .nil))))))))) rfl ae ae ae cY ?_
  refine go ?_
  by_cases hl:(b.length:Int)=n
  case neg =>
   rw[decide_eq_false hl,Bool.false_and]at hE
   refine aD 27 ((.bool false)) rfl ((congrArg Value.bool (decide_eq_false hl))) (go ?_)
   refine ad hE Tryz.func142 zr zr ⟨rfl,rfl⟩
  rw[decide_eq_true hl,Bool.true_and]at hE
  refine aD 27 ((.bool true)) rfl ((congrArg Value.bool (decide_eq_true hl))) (go ?_)
  refine bU (U:=aU) (cs:=dC x.root) 0 zr zr zr zr zr zr (go ?_)
  refine df (U:=aU) (l:=dY x) 0 zr zr zr zr zr zr (go ?_)
  refine bP V3 ?_
  refine go ?_
  refine bP hlf ?_
  refine go ?_
  refine bP hck ?_
  refine go ?_
  refine ad hE Tryz.func142 zr zr ⟨rfl,rfl⟩
end Go.Proofs.YtnkfkabokmcgoaaGreatDoor
namespace Go.Proofs.YtnkfkabokmcgoaaGreatDoor
open Go Go.SL
structure TC where
 x:Bl
 n:Nat
 ws:List mW
 pf:Int→Option (List Dg)
def Tk.c(y:Tk):TC:=⟨y.x,y.n,y.ws,y.pf⟩
def jM(ts:List Tk):List TC:=ts.map Tk.c
namespace TC
def put(c:TC)(i:Nat)(l:List Dg):TC:=⟨c.x,c.n,lW c.ws i true,fun j=>if j=(i:Int)then some l else c.pf j⟩
def drop(c:TC)(i:Nat):TC:=⟨c.x,c.n,lW c.ws i false,fun j=>if j=(i:Int)then none else c.pf j⟩
end TC
def q7(x:Bl):TC:=⟨x,(fk x).toNat,List.replicate (((fk x).toNat+63)/64) 0#64,fun _=>none⟩
def oz:List (List UInt8)→Option (List Dg)
 | []=>some []
 | b::l=>match fU b,oz l with
  | some d,some ds=>some (d::ds)
  | _,_=>none
def nt(cs:List TC)(d:Dg)(m:List UInt8)(l:List (List UInt8)):List TC:=match o8 m,oz l with
 | some i,some p=>cs.map fun y=>if y.x.d=d∧i<y.n∧p.length=iw y.n i then y.put i p else y
 | _,_=>cs
def Mm(cs:List TC)(d:Dg):List TC:=cs.filter fun y => !decide (y.x.d=d)
def e7(cs:List TC)(b:List UInt8):List TC:=match iH b with
 | none=>cs
 | some (k,d,more) =>
  if k=3∧more=[]then Mm cs d
  else match more with
   | [s,p,r]=>if k=1 then(match o8 s,o8 p,fU r with
     | some s,some p,some r=>if cp ⟨d,s,p,r⟩then Mm cs d++[q7 ⟨d,s,p,r⟩]else cs
     | _,_,_=>cs)
    else if k=2 then nt cs d s [p,r]else cs
   | m::l=>if k=2 then nt cs d m l else cs
   | []=>cs
def cz(d:Dg)(i:Nat)(p:List Dg):List UInt8:=vS 2 d (uv i::p.map Dg.bs)
def lD(s:mI)(z:TC × List (List UInt8))(i:Nat):TC × List (List UInt8) :=
 if p9 z.1.ws z.1.n (i:Int)then(if(dQ s z.1.x i).2≠0∨k7 z.1.x i (dQ s z.1.x i).1 ((z.1.pf i).getD [])=false then(z.1.drop i,z.2)else(z.1,z.2++[cz z.1.x.d i ((z.1.pf i).getD [])]))else z
def gz(s:mI)(c:TC)(k:Nat):TC × List (List UInt8):=(List.range k).foldl (lD s) (c,[eh c.x])
def jy(s:mI)(c:TC):TC × List (List UInt8):=gz s c c.n
def qn(q:Int):List TC→mI→List TC→List (List UInt8)→Nat→mI→List TC→List (List UInt8)→Prop
 | [],s,cs,rs,e,t,vM,ES=>e=0∧t=s∧vM=cs∧ES=rs
 | c::l,s,cs,rs,e,t,vM,ES=>∃e1 s1,fX q c.x s e1 s1 ∧
  if e1=5∨e1=11 then qn q l s1 cs rs e t vM ES
  else if e1≠0 then e=e1∧t=s1
  else qn q l s1 (cs++[(jy s1 c).1]) (rs++(jy s1 c).2) e t vM ES
def zA(q:Int)(s:mI)(e:Nat)(t:mI)(jn:JN)(cs:List TC):Prop :=
 ∃e1 A1 j1,nV s.A mS e1 A1 j1∧if e1≠0 then e=e1∧t=⟨A1,s.cm,s.brk⟩else
  ∃e2 s2 rs,qn q ((je s.A mS).foldl e7 []) ⟨A1,s.cm,s.brk⟩ [] [] e2 s2 cs rs∧if e2≠0 then e=e2∧t=s2 else
   ∃A3,qy mS s2.A j1 rs e A3 jn∧t=⟨A3,s2.cm,s2.brk⟩
def l9(s:mI)(c:TC)(k:Nat):gz s c (k+1)=lD s (gz s c k) k:=by
 unfold gz
 rw[List.range_succ,List.foldl_append]
 rfl
theorem MO(s:mI)(z:TC × List (List UInt8))(i:Nat):(lD s z i).1.x=z.1.x∧(lD s z i).1.n=z.1.n∧(lD s z i).1.ws.length=z.1.ws.length:=by
 unfold lD
 split
 ·split
  ·exact⟨rfl,rfl,lu _ _ _⟩
  grind
 grind
theorem Fc(s:mI)(c:TC):∀k,(gz s c k).1.x=c.x∧(gz s c k).1.n=c.n∧(gz s c k).1.ws.length=c.ws.length
 | 0=>⟨rfl,rfl,rfl⟩
 | k+1=>by
  rw[l9]
  obtain⟨h1,h2,h3⟩:=MO s (gz s c k) k
  obtain⟨g1,g2,g3⟩:=Fc s c k
  grind
theorem Fz(ts:List Tk):(jM ts).length=ts.length:=by simp[jM]
def iO(i:Nat)(l:List Dg):List (List UInt8):=uv i::l.map Dg.bs
def ub(i:Nat)(hi:i≤1000000000000)(l:List Dg):∀b∈iO i l,b.length≤32:=fun b hb=>by
  rcases List.mem_cons.1 hb with rfl|hb
  · have := tq 5 i (by have : (128 : Nat) ^ 6 = 4398046511104 := by decide
                       omega)
    omega
  · obtain⟨d,_,rfl⟩:=List.mem_map.1 hb
    rw[d.len];omega
def AE(i:Nat){l:List Dg}{j:Nat}{d:Dg}(h:l[j]?=some d):iO i (l.take (j+1))=iO i (l.take j)++[d.bs]:=by
 unfold iO
 rw[List.take_add_one,h]
 simp
structure Xb where
 cs:List Value
 Z:HP
def zx(M:Xb)(ls:List (List UInt8)):Prop:=M.cs.length=ls.length∧∀(i:Nat) (x:List UInt8),ls[i]?=some x→∃cv,M.cs[i]?=some cv∧fb M.Z cv x
theorem zx.add{M:Xb}{ls:List (List UInt8)}(h:zx M ls){A:HP}{cv:Value}{x:List UInt8}(hx:fb A cv x):zx ⟨M.cs++[cv],Sep [A,M.Z]⟩ (ls++[x]):=by
 obtain⟨h1,h2⟩:=h
 refine⟨by simp[h1],fun i y hy=>?_⟩
 rw[List.getElem?_append]at hy ⊢
 rw[h1]
 split at hy
 ·rename_i cq
  rw[if_pos cq]
  obtain⟨Z',h3,h4⟩:=h2 i y hy
  exact⟨Z',h3,h4.mono (bz (i:=1) rfl)⟩
 ·rename_i ek
  rw[if_neg ek]
  have h0:i-ls.length=0:=by
   grind
  rw[h0]at hy ⊢
  cases hy
  exact⟨cv,rfl,hx.mono (bz (i:=0) rfl)⟩
attribute [local irreducible] J K aq Ends ag aI aC bF aW aP a6 aZ bN aB
theorem Gm(d:Dg)(i:Nat)(hi:i≤1000000000000)(P:HP)(pv:Value)(l:List Dg)(hp:Vw P pv l.length (l.flatMap dC))(hl:l.length≤16) :
  aq Tryz.prog 144 [dV d,.int .i64 (i:Int),pv] [P] (fun r H=>H=[aI 5 1 r (cz d i l).length (bV (cz d i l)),P]):=by
 obtain⟨a,c,rfl⟩:=hp.shape
 have hlen:=ub i hi l
 refine aq.aj Tryz.func144 Tryz.ntmps144 fun G F R hE=>?_
 refine aH rfl ?_
 refine bp zr zr bh ?_
 intro b3
 refine go ?_
 refine aF (j5 i ai) ?_
 rintro r8 _ rfl
 refine aL 0 rfl ?_
 rintro a8 c8 rfl
 refine gU (bs:=uv i) 0 rfl ?_
 intro W2
 refine go ?_
 refine al (cs:=[.slice a8 (uv i).length c8]) zr zr zr zr zr zr zr zr zr bh ?_
 intro row
 refine go ?_
 refine ak (eL 38 1 row 1 1 [.slice a8 (uv i).length c8] [] _ rfl (Nat.le_refl _) (by simp)) ?_
 refine bn (fun y:Nat × Xb × Option Addr × Nat=>y.1≤l.length∧zx y.2.1 (iO i (l.take y.1))) (fun y=>l.length-y.1)
  (fun y=>[(3,ptr b3),(7,.slice y.2.2.1 (y.1+1) y.2.2.2),(14,.slice a l.length c),(15,.int .i64 (l.length:Int)),(16,.int .i64 (y.1:Int))])
  (fun y=>aI 38 1 (.slice y.2.2.1 (y.1+1) y.2.2.2) (y.1+1) y.2.1.cs::y.2.1.Z::ag b3 (cl (dC d) 36)::P::F) (0,⟨[.slice a8 (uv i).length c8],aI 5 1 (.slice a8 (uv i).length c8) (uv i).length (bV (uv i))⟩,some ⟨row,0,none⟩,1) ⟨Nat.zero_le _,?_⟩ rfl bQ ah ?_
 ·refine⟨rfl,fun j x hx=>?_⟩
  grind [iO]
 rintro⟨j,M,ma,mc⟩⟨hj,hM⟩ ih
 refine go ?_
 refine au zr zr ?_ ?_
 ·intro cq
  have nC:j<l.length:=by omega
  obtain⟨x,hx⟩:∃x,l[j]?=some x:=⟨l[j],by simp⟩
  have ki:=AE i hx
  obtain⟨bb,oo,cc,he⟩:=hp.some (by intro h;have:=congrArg List.length h;rw[bI nP]at this;simp at this;omega)
  obtain⟨rfl,rfl⟩:=he
  refine go ?_
  refine bX j 32 zr zr zr zr zr zr zr zr nC ?_
  refine aT ?_
  refine bW (U:=aU) (es:=dC x) 3 (j*32) zr zr zr hp rfl (fun q v hq=>?_) zr zr zr ?_
  ·rw[ck nP hx q (by rcases Nat.lt_or_ge q 32 with h|h;exact h;rw[List.getElem?_eq_none (by rw[nP];exact h)]at hq;cases hq)];exact hq
  refine az zr zr zr bh ?_
  intro b9
  refine go ?_
  refine iQ (U:=aU) zr zr zr zr zr ?_
  have y8:fb (ag b9 (cl (dC x) 36)) (.slice (some ⟨b9,0,none⟩) 32 32) x.bs:=fb.block x.len (eG x)
  have mF:=jh (ag b9 (cl (dC x) 36)) (.slice (some ⟨b9,0,none⟩) x.bs.length 32) x.bs (by have:=y8.1;rw[x.len]at this ⊢;exact this) (by rw[x.len];omega)
  rw[x.len]at mF
  refine aF mF ?_
  rintro r9 _ rfl
  rw[← x.len]
  refine aL 0 rfl ?_
  rintro a9 c9 rfl
  refine gU (bs:=x.bs) 0 rfl ?_
  intro V9
  refine go ?_
  refine al (cs:=[.slice a9 x.bs.length c9]) zr zr zr zr zr zr zr zr zr bh ?_
  intro Mj
  refine go ?_
  refine aO (mm:=1) (news:=[.slice a9 x.bs.length c9]) 3 0 rfl rfl rfl rfl rfl rfl rfl rfl rfl rfl rfl rfl (Vw.ag rfl) rfl (by intro v hv;simp at hv;rw[hv];rfl) ai (by show(_+_)*24≤_;omega) (fun _=>rfl) bh ?_
  intro v1
  refine aL 3 rfl ?_
  rintro ja jc rfl
  refine go ?_
  refine ak (ao.pick [1,4,3,5,6] rfl) ?_
  refine ak (ao.cd [aI 5 1 (.slice a9 x.bs.length c9) x.bs.length (bV x.bs),M.Z] _) ?_
  have Bk:=hM.add V9
  rw[← ki]at Bk
  refine aK ih (j+1,⟨M.cs++[.slice a9 x.bs.length c9],Sep [aI 5 1 (.slice a9 x.bs.length c9) x.bs.length (bV x.bs),M.Z]⟩,ja,jc) rfl ⟨by simp only;omega,Bk⟩ ai bQ ah
 ·intro ek
  have MX:j=l.length:=by omega
  subst MX
  rw[List.take_length]at hM
  have sE:(iO i l).length=l.length+1:=by simp[iO]
  refine nX 0 rfl ?_
  intro gg
  refine eu 0 rfl ?_
  intro vH
  have lE:su (Sep [aI 38 1 (.slice ma (l.length+1) mc) (l.length+1) M.cs,M.Z]) (.slice ma (l.length+1) mc) (iO i l):=by
   rw[← sE]at vH gg ⊢
   exact su.ofP vH gg hM.1 hM.2
  have MG:=tU 2 d _ _ (iO i l) lE ai hlen
  refine ak (ao.cd [aI 38 1 (.slice ma (l.length+1) mc) (l.length+1) M.cs,M.Z] _) (go ?_)
  refine aM (U:=aU) (l:=dC d) 1 zr zr zr zr zr zr ?_
  ((refine go ?_;(refine aF MG ?_)))
  rintro rr _ rfl
  refine go ?_
  refine aG hE Tryz.func144 rfl _ zr zr ah
def F5{ts:List Tk}{i:Nat}{y:Tk}(h:ts[i]?=some y):((ts.take (i+1)).map Tk.x).flatMap dY=((ts.take i).map Tk.x).flatMap dY++dY y.x:=by rw[List.take_add_one,h];simp
def vC(tb bs jb:Nat)(tv:Value)(br:Bool)(ts:List Tk)(hl:ts.length≤1000000) :
  aq Tryz.prog 44 [ptr tb] (ff tb bs jb tv ts br) (fun r H=>H=aI 107 66 r ts.length ((ts.map Tk.x).flatMap dY)::ff tb bs jb tv ts br):=by
 unfold ff
 refine aq.aj Tryz.func44 Tryz.ntmps44 fun G F R hE=>?_
 refine cL 1 rfl ?_
 rintro a c rfl
 refine eu 1 rfl ?_
 intro dt
 refine go ?_
 refine ak (bj 107 66 none _) ?_
 refine bn (fun y:Nat × Option Addr × Nat=>y.1≤ts.length) (fun y=>ts.length-y.1) (fun y=>[(3,.slice y.2.1 y.1 y.2.2),(9,.slice a ts.length c),(10,.int .i64 (ts.length:Int)),(11,.int .i64 (y.1:Int))])
  (fun y=>aI 107 66 (.slice y.2.1 y.1 y.2.2) y.1 (((ts.take y.1).map Tk.x).flatMap dY)::aI 133 1 (.slice a ts.length c) ts.length (ts.map eK)::bZ ts::ag tb (cl [ptr bs,ptr jb,.slice a ts.length c,.bool br] 131)::F) (0,none,0) (Nat.zero_le _) rfl bQ ah ?_
 rintro⟨i,oa,oc⟩ hi ih
 simp only at hi
 dsimp only
 refine go ?_
 refine au zr zr ?_ ?_
 ·intro cq
  have dq:i<ts.length:=by omega
  obtain⟨y,hx⟩:∃x,ts[i]?=some x:=⟨ts[i],by simp[dq]⟩
  have ki:=F5 hx
  have sT:(dY y.x).length=66:=rfl
  obtain⟨b,o,eX,dW⟩:=dt.some (L9 dq)
  simp only[Value.slice.injEq]at dW
  obtain⟨rfl,_,rfl⟩:=dW
  refine go ?_
  refine bC i zr zr zr zr zr zr zr zr dq ?_
  refine aT ?_
  refine aN 1 i zr zr zr dt rfl (pJ hx) zr zr (go ?_)
  refine aS (H':=bZ ts::aI 107 66 (.slice oa i oc) i (((ts.take i).map Tk.x).flatMap dY)::aI 133 1 (.slice (some ⟨b,o,none⟩) ts.length c) ts.length (ts.map eK)::ag tb (cl [ptr bs,ptr jb,.slice (some ⟨b,o,none⟩) ts.length c,.bool br] 131)::F) ah ?_
  refine aS (yu hx _) ?_
  refine Ew (iY y) ?_
  rintro z hz
  refine aS (H':=ag y.yb (cl (sK y) 138)::aI 107 66 (.slice oa i oc) i (((ts.take i).map Tk.x).flatMap dY)::ag y.sb (cl [.int .i64 (y.n:Int),z.1] 307)::aI 43 1 z.1 y.ws.length (qV y.ws)::aC (Value.int .i64) y.mb z.2.1::a6 36 z.2.2::bZ (ts.take i++ts.drop (i+1))::aI 133 1 (.slice (some ⟨b,o,none⟩) ts.length c) ts.length (ts.map eK)::ag tb (cl [ptr bs,ptr jb,.slice (some ⟨b,o,none⟩) ts.length c,.bool br] 131)::F) ah (go ?_)
  refine bq (cs:=dY y.x) 0 zr zr zr zr zr zr ?_
  refine al (cs:=dY y.x) zr zr zr zr zr zr zr zr zr bh ?_
  intro row
  refine go ?_
  refine aO (mm:=1) (news:=dY y.x) 2 0 zr zr zr zr zr zr zr zr zr zr zr zr (Vw.ag rfl) rfl (by have:=FD [y.x];simpa using this) ai (by show(_+_)*80≤_;omega) (fun _=>rfl) bh ?_
  intro v1
  rw[← ki]
  refine aL 2 rfl ?_
  rintro ja jc rfl
  refine go ?_
  refine ak (H':=Aa y z++(bZ (ts.take i++ts.drop (i+1))::aI 107 66 (.slice ja (i+1) jc) (i+1) (((ts.take (i+1)).map Tk.x).flatMap dY)::aI 133 1 (.slice (some ⟨b,o,none⟩) ts.length c) ts.length (ts.map eK)::ag tb (cl [ptr bs,ptr jb,.slice (some ⟨b,o,none⟩) ts.length c,.bool br] 131)::F)) (by unfold Aa;exact ah) ?_
  refine ak (lQ hz _) ?_
  refine ak (EL hx _) ?_
  refine aK ih (i+1,ja,jc) rfl (by simp only;omega) (by simp only;omega) bQ ah
 ·intro ek
  have vK:i=ts.length:=by omega
  subst vK
  rw[List.take_length]
  clear ih
  refine go ?_
  refine aG hE Tryz.func44 rfl _ zr zr ah
end Go.Proofs.YtnkfkabokmcgoaaGreatDoor
namespace Go.Proofs.YtnkfkabokmcgoaaGreatDoor
open Go Go.SL
def El(bs bd jb:Nat)(q:Int)(mb:Nat)(x:SJ)(F:List HP):ao (kP bs bd jb q mb [] x::F) (oW bs bd q mb x.1++(LP jb bd mS x.2::F)):=by
 refine(ao.cX _ _).trans ?_
 exact ao.refl _
def vf(bs bd jb:Nat)(q:Int)(mb:Nat)(x:SJ)(F:List HP):ao (oW bs bd q mb x.1++(LP jb bd mS x.2::F)) (kP bs bd jb q mb [] x::F):=by
 refine ao.trans ?_ (ao.cd _ _)
 exact ao.refl _
theorem FF.look{z:Value × List (Int × Value) × eV}{y:Tk}(h:FF z y)(i:Int):∃v,(cw z.2.1 i).getD (.slice none 0 0)=v∧zY z.2.2 32 v ((y.pf i).getD []).length (((y.pf i).getD []).flatMap dC):=by
 have:=h i
 cases hx:cw z.2.1 i with
 | none =>
  grind [zY.nil]
 | some v =>
  grind
attribute [local irreducible] J K aq Ends ag aI aC bF aW aP a6 aZ bN aB kP
end Go.Proofs.YtnkfkabokmcgoaaGreatDoor
