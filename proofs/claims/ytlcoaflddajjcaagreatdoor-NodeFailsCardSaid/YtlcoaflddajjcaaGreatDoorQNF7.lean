import Derived.Test.YtlcoaflddajjcaaGreatDoorQNF2
import Derived.Test.YtlcoaflddajjcaaGreatDoorQNF3
import Derived.Test.YtlcoaflddajjcaaGreatDoorQNF4
import Derived.Test.YtlcoaflddajjcaaGreatDoorQNF5
import Derived.Test.YtlcoaflddajjcaaGreatDoorQNF6
set_option linter.unusedSectionVars false
set_option linter.unusedSimpArgs false
set_option linter.unusedVariables false
set_option maxRecDepth 20000
set_option linter.defProp false
namespace Go.Proofs.YtlcoaflddajjcaaGreatDoor
open Go Go.SL
attribute [local irreducible] J K au Ends ae aB aI bB aW aS a7 aX bF
def mV(l:List Mem):List Value:=l.flatMap nv
def QB(l:List Mem):mV l=l.flatMap nv:=rfl
def YG(l:List Mem):(mV l).length=l.length*4:=bT nu l
def yF(A X:HP)(v:Value)(l:List Mem)(hv:Vw A v l.length (mV l))(hlen:l.length≤1000000000)(g:FuncId)(cap:List Value)(p:Mem→Bool)(hf:∀x∈l,au Tryz.prog g (.agg (nv x).toArray::cap) [X] (fun v H=>v = .bool (p x)∧H=[X])) :
  au Tryz.prog 385 [v,.func (.func g) #[] cap.toArray] [A,X] (fun r H=>r = .int .i64 (gM p l)∧H=[A,X]):=by
 obtain⟨a,c0,rfl⟩:=hv.shape
 refine au.enter Tryz.func385 ah rfl Tryz.ntmps385 zr zr ?_
 intro G F R hR
 refine go ?_
 refine bj (fun i:Nat=>i≤l.length∧∀y∈l.take i,p y=false) (fun i=>l.length-i) (fun i=>[(0,.slice a l.length c0),(1,.func (.func g) #[] cap.toArray),(7,.int .i64 l.length),(8,.int .i64 i)]) (fun _=>[A,X]++F) 0 ⟨by simp,by simp⟩ rfl bS (ao.refl _) ?_
 rintro i⟨hi,hb⟩ ih
 refine go ?_
 refine aq zr zr ?_ ?_
 ·intro cL
  refine go ?_
  have dA:i<l.length:=by omega
  have hx:l[i]?=some l[i]:=by simp[dA]
  generalize YN:l[i]=x at hx
  obtain⟨b,o,eY,dL⟩:=hv.some (by rw[← List.length_pos_iff,QB,bT nu];omega)
  simp only[Value.slice.injEq]at dL
  obtain⟨rfl,_,rfl⟩:=dL
  refine bW i 4 zr zr zr zr zr zr zr zr dA ?_
  refine cd (U:=aU) (es:=nv x) 0 (i*4) zr zr zr hv rfl (fun j v hj=>?_) zr zr zr ?_
  ·have hj4:j<4:=by
    rcases Nat.lt_or_ge j 4 with h|h
    ·exact h
    ·rw[List.getElem?_eq_none (by rw[nu];exact h)]at hj;cases hj
   rw[QB,cM nu hx j hj4];exact hj
  refine cg [1] zr zr zr zr (hf x (List.mem_of_getElem? hx)) rfl jk ?_
  rintro _ _⟨rfl,rfl⟩
  refine go ?_
  refine dY zr zr ?_ ?_
  ·intro hp
   refine go ?_
   refine aK hR Tryz.func385 rfl _ rfl ⟨by rw[gL hx hp hb];rfl,rfl⟩ (ao.fin [1,0] 0 zr zr)
  ·intro hp
   refine go ?_
   refine aM ih (i+1) rfl ⟨ai,kC hb hx hp⟩ ai bS (ao.pick [1,0] rfl)
 ·intro ep
  refine go ?_
  have:i=l.length:=by omega
  subst this
  refine aK hR Tryz.func385 rfl _ rfl ⟨by rw[iF (fun x hx=>hb x (by simpa using hx))];rfl,rfl⟩ (ao.fin [0,1] 0 zr zr)
def tV(A X:HP)(v:Value)(l:List Mem)(hv:Vw A v l.length (mV l))(hlen:l.length≤1000000000)(g:FuncId)(cap:List Value)(p:Mem→Bool)(hf:∀x∈l,au Tryz.prog g (.agg (nv x).toArray::cap) [X] (fun v H=>v = .bool (p x)∧H=[X])) :
  au Tryz.prog 309 [v,.func (.func g) #[] cap.toArray] [A,X] (fun r H=>r = .bool (l.any p)∧H=[A,X]):=by
 refine au.ak Tryz.func309 Tryz.ntmps309 fun G F R hE=>?_
 refine go ?_
 refine aw (yF A X v l hv hlen g cap p hf) ?_
 refine go ?_
 refine bq 4 ((.bool (l.any p))) rfl ((congrArg Value.bool (u0 p l))) ?_
 refine ad hE Tryz.func309 zr zr ⟨rfl,rfl⟩
def zg(i:Int):au Tryz.prog 304 [.int .i64 i] [] (fun r H=>r = .bool (rJ i)∧H=[]):=by
 refine au.ak Tryz.func304 Tryz.ntmps304 fun G F R hE=>?_
 refine go ?_
 refine aw (jw i 1 65536) ?_
 refine go ?_
 refine ad hE Tryz.func304 zr zr ⟨rfl,rfl⟩
def EY(x:Mem)(bo:Nat):au Tryz.prog 306 [.agg (nv x).toArray,ptr bo] [ae bo (cl [.func (.func 304) #[] #[] ] 62)] (fun r H=>r = .bool (qv x)∧H=[ae bo (cl [.func (.func 304) #[] #[] ] 62)]):=by
 refine au.ak Tryz.func306 Tryz.ntmps306 fun G F R hE=>?_
 refine aD rfl ?_
 refine bu zr zr bh ?_
 intro bx
 refine go ?_
 refine aw (zg x.id) ?_
 have e1:qv x=(rJ x.id || !j7 x.inc 0 1073741824 || !j7 x.st 1 3 || decide (x.since≠0)):=rfl
 cases h1:rJ x.id with
 | true=>refine go ?_;((refine ad hE Tryz.func306 zr zr ⟨by rw[e1,h1];rfl,rfl⟩))
 | false =>
 refine go ?_
 refine aw (jw x.inc 0 1073741824) ?_
 cases h2:j7 x.inc 0 1073741824 with
 | false=>refine go ?_;((refine ad hE Tryz.func306 zr zr ⟨by rw[e1,h1,h2];rfl,rfl⟩))
 | true =>
 refine go ?_
 refine aw (jw x.st 1 3) ?_
 cases h3:j7 x.st 1 3 with
 | false=>refine go ?_;((refine ad hE Tryz.func306 zr zr ⟨by rw[e1,h1,h2,h3];rfl,rfl⟩))
 | true =>
 refine go ?_
 ((refine ad hE Tryz.func306 zr zr ⟨by rw[e1,h1,h2,h3];rfl,rfl⟩))
def C2(X:HP)(v:MV)(m:mY)(hm:uJ X v m)(i:Int)(hi:1≤i∧i≤8):au Tryz.prog 192 [.agg (mC v m).toArray,.int .i64 i] [X] (fun r H=>r = .bool (uF m i)∧H=[X]):=by
 obtain⟨vi,vb,vp,vm⟩:=v
 have hmi:=hm.vi
 have hmm:=hm.vm
 have Hm:=hm.li
 have hlm:=hm.lm
 obtain⟨ia,ic,rfl⟩:=hm.vi.shape
 obtain⟨ba,bc,rfl,_⟩:=hm.vb.2
 obtain⟨pa,pc,rfl⟩:=hm.vp.1.shape
 obtain⟨ma,mc,rfl⟩:=hm.vm.shape
 have hi:i=1∨i=2∨i=3∨i=4∨i=5∨i=6∨i=7∨i=8:=by omega
 refine au.ak Tryz.func192 Tryz.ntmps192 fun G F R hE=>?_
 refine aD rfl ?_
 refine bu zr zr bh ?_
 intro bx
 refine go ?_
 refine az zr zr zr bh ?_
 intro bo
 rcases hi with rfl|rfl|rfl|rfl|rfl|rfl|rfl|rfl
 case inr.inr.inl =>
  refine go ?_
  refine aw (jw m.piece 0 1023) ?_
  refine go ?_
  refine ad hE Tryz.func192 zr zr ⟨rfl,rfl⟩
 case inr.inr.inr.inl =>
  repeat'(first|(with_reducible intro jg)|refine er ?_|refine dP zr zr zr zr ?_ ?_|fail)
  ·have e1:uF m 4 = !m.ids.any rJ:=by show(decide ((m.ids.length:Int)≤64) && !m.ids.any rJ)=_;rw[decide_eq_true jg];rfl
   rw[e1]at hE
   refine aw (tW X (ae bo (cl [.func (.func 304) #[] #[] ] 62)) (.slice ia m.ids.length ic) m.ids hmi Hm 304 [] rJ (fun x _=>(zg x).FG _)) ?_
   refine go ?_
   refine ad hE Tryz.func192 zr zr ⟨rfl,rfl⟩
  ·have e1:uF m 4=false:=by show(decide ((m.ids.length:Int)≤64) && !m.ids.any rJ)=_;rw[decide_eq_false jg];rfl
   rw[e1]at hE
   refine ad hE Tryz.func192 zr zr ⟨rfl,rfl⟩
 case inr.inr.inr.inr.inl =>
  refine go ?_
  refine aL (fun w=>Sat G w ([X,ae bx (cl (mC ⟨.slice ia m.ids.length ic,.slice ba m.bytes.length bc,.slice pa m.proof.length pc,.slice ma m.p7.length mc⟩ m) 56)])) (cJ 0 5 (.act 5 (.act 6 (.st 7 .nil)))) rfl ah ah ah dv ?_
  refine go ?_
  refine bE (Me m.kind) ?_
  refine go ?_
  refine bE (jw m.bytes.length 1 (Ct m.kind)) ?_
  refine go ?_
  refine ad hE Tryz.func192 zr zr ⟨rfl,rfl⟩
 case inr.inr.inr.inr.inr.inr.inl =>
  refine go ?_
  refine aw (jw m.p7.length 1 65) ?_
  cases h1:j7 m.p7.length 1 65 with
  | false =>
   have e1:uF m 7=false:=by show(j7 m.p7.length 1 65 && !m.p7.any qv)=_;rw[h1];rfl
   rw[e1]at hE
   refine go ?_
   refine ad hE Tryz.func192 zr zr ⟨rfl,rfl⟩
  | true =>
   have e1:uF m 7 = !m.p7.any qv:=by show(j7 m.p7.length 1 65 && !m.p7.any qv)=_;rw[h1];rfl
   rw[e1]at hE
   refine go ?_
   refine aw (tV X _ (.slice ma m.p7.length mc) m.p7 hmm hlm 306 [ptr bo] qv (fun x _=>EY x bo)) ?_
   refine go ?_
   refine ad hE Tryz.func192 zr zr ⟨rfl,rfl⟩
 all_goals(
  refine go ?_
  ((refine ad hE Tryz.func192 zr zr ⟨rfl,rfl⟩)))
def yg(m:mY)(i:Nat):Bool:=(List.range i).all fun j=>decide (j=0) || j4 m j
def tn(m:mY)(i:Nat):yg m (i+1)=(yg m i && (decide (i=0) || j4 m i)):=by unfold yg;rw[List.range_succ,List.all_append];simp
def zf(m:mY):yg m 9=ni m:=by
 simp only[tn,show yg m 0=true from rfl,ni]
 rfl
def G1{m:mY}{i:Nat}(h:yg m (i+1)=false)(hi:i≤8):ni m=false:=by
 rw[← zf]
 have key:∀k,yg m (i+1+k)=false:=fun k=>by
  induction k with
  | zero=>exact h
  | succ k ih=>rw[show i+1+(k+1)=(i+1+k)+1 from rfl,tn,ih];rfl
 have:=key (8-i)
 rwa[show i+1+(8-i)=9 by omega]at this
def Mu(k:Int):(tD k).length≤5:=by
 unfold tD
 repeat' split
 all_goals decide
def Ei(X:HP)(v:MV)(m:mY)(hm:uJ X v m):au Tryz.prog 98 [.agg (mC v m).toArray] [X] (fun r H=>r = .bool (ni m)∧H=[X]):=by
 have Pw:=Mu m.kind
 refine au.ak Tryz.func98 Tryz.ntmps98 fun G F R hE=>?_
 refine aD rfl ?_
 refine bu zr zr bh ?_
 intro bx
 refine go ?_
 refine aF (KY m.kind) ?_
 rintro _ _ rfl
 refine aH 0 rfl ?_
 rintro ha hc rfl
 refine go ?_
 refine bj (fun i:Nat=>1≤i∧i≤9∧yg m i=true) (fun i=>9-i) (fun i=>[(1,ptr bx),(3,.slice ha (tD m.kind).length hc),(4,.int .i64 (i:Int))])
  (fun _=>aB 3 1 (.slice ha (tD m.kind).length hc) (tD m.kind).length (iV (tD m.kind))::ae bx (cl (mC v m) 56)::X::F) 1 ⟨ai,ai,rfl⟩ rfl bS ag ?_
 rintro i⟨KL,hi9,nD⟩ ih
 refine go ?_
 refine aq zr zr ?_ ?_
 case' refine_2 =>
  intro ep
  have:i=9:=by omega
  subst this
  rw[zf]at nD
  rw[nD]at hE
  refine go ?_
  refine ad hE Tryz.func98 zr zr ⟨rfl,rfl⟩
 intro hle
 have hs:=tn m i
 rw[nD,decide_eq_false (show ¬i=0 by omega),Bool.true_and,Bool.false_or]at hs
 refine go ?_
 refine dH 0 rfl ?_
 intro cW
 refine aw (qm _ _ (tD m.kind) (i:Int) cW ai) ?_
 by_cases tB:(i:Int)∈tD m.kind
 ·rw[decide_eq_true tB]
  have hs:yg m (i+1)=uF m i:=by rw[hs];unfold j4;rw[if_pos tB]
  cases hf:uF m (i:Int)with
  | true =>
   refine go ?_
   refine bP 1 zr zr zr zr zr zr (go ?_)
   refine aw (C2 X v m hm i ⟨ai,ai⟩) ?_
   rw[hf]
   refine go ?_
   refine aM ih (i+1) rfl ⟨ai,ai,hs.trans hf⟩ ai bS ag
  | false =>
   rw[G1 (hs.trans hf) ai]at hE
   refine go ?_
   refine bP 1 zr zr zr zr zr zr (go ?_)
   refine aw (C2 X v m hm i ⟨ai,ai⟩) ?_
   rw[hf]
   refine go ?_
   refine ad hE Tryz.func98 zr zr ⟨rfl,rfl⟩
 ·rw[decide_eq_false tB]
  have hs:yg m (i+1)=HS m i:=by rw[hs];unfold j4;rw[if_neg tB]
  cases hf:HS m (i:Int)with
  | true =>
   refine go ?_
   refine bP 1 zr zr zr zr zr zr (go ?_)
   refine aw (Dm X v m hm i ⟨ai,ai⟩) ?_
   rw[hf]
   refine go ?_
   refine aM ih (i+1) rfl ⟨ai,ai,hs.trans hf⟩ ai bS ag
  | false =>
   rw[G1 (hs.trans hf) ai]at hE
   refine go ?_
   refine bP 1 zr zr zr zr zr zr (go ?_)
   refine aw (Dm X v m hm i ⟨ai,ai⟩) ?_
   rw[hf]
   refine go ?_
   refine ad hE Tryz.func98 zr zr ⟨rfl,rfl⟩
end Go.Proofs.YtlcoaflddajjcaaGreatDoor
namespace Go.Proofs.YtlcoaflddajjcaaGreatDoor
open Go Go.SL
structure sP where
 aT:Int
 bR:Int
 cj:Int
 each:Int
 pat:Int
 lim:Int
 fC:Int
 bG:Int
def x7(S:sP):List Value:=[.int .i64 S.aT,.int .i64 S.bR,.int .i64 S.cj,.int .i64 S.each,.int .i64 S.pat,.int .i64 S.lim,.int .i64 S.fC,.int .i64 S.bG]
def cy(id:Int)(S:sP)(st tb bv kb hb:Nat)(pv:Value)(ms mg:Nat)(br:Bool):List Value := .int .i64 id::(x7 S++[ptr st,ptr tb,ptr bv,ptr kb,ptr hb,pv,.map (some ms),.map (some mg),.bool br])
end Go.Proofs.YtlcoaflddajjcaaGreatDoor
namespace Go.SL
section
variable{P:Program}{U:Tr}[hU:eT P U]{f:FuncId}{n:Nat}{R:Ending→World→Prop}{G:ct}{k:List Item}{L:eH}{H H':List HP}{S:World→Prop}{all:Array Oper}{rest:Pl}{ty:TypeId}{pos:String}{af:Array Edge}{gd:Option (Nat × Bool)}
variable{κ:Type}[DecidableEq κ]{kv:κ→Value}
def xP{t kt et:TypeId}{bO:Ty}{x:Operand}{b:Nat}{es:List (κ × Value)}(i:Nat)(hS:∀w,Sat G w H'→Sx rest S w)(hx:ev L x=some (.map (some b)))(ht:U.get t=some bO)(hu:bO.eV = .map kt et)(hi:bZ H i=some (aI kv b es))(hp:jO i (aI kv b ([]:List (κ × Value))) H [] = .mk H')(h:J P f n R G S all rest k L H'):J P f n R G S all (.cons false true ⟨none,.call { callee := .builtin .clear,args := #[x],argTypes := #[t] },ty,pos,af,gd⟩ rest) k L H:=by
 intro a w ha hw _
 obtain⟨o,hm,hb⟩:=hw.k9 hi
 obtain⟨entries,clock,rfl,n9,iK,oS,Hy⟩:=hm
 have iW:∀o',(setObj b o').run P w = .ok () { w with heap:=w.heap.setIfInBounds b o' }:=fun o'=>by simp[setObj,Sem.run,hb]
 have hs:=hw.v8 hi (o' := .map #[] clock) (es':=[]) ⟨#[],clock,rfl,rfl,by simp,by simp,by simp⟩ hp
 refine .inl ⟨.inl rfl,.inr ⟨rfl,?_⟩⟩
 have:(execOp a.eval ⟨none,.call { callee := .builtin .clear,args := #[x],argTypes := #[t] },ty,pos,af,gd⟩).run P w = .ok (.value (.tuple #[])) { w with heap:=w.heap.setIfInBounds b (.map #[] clock) }:=by
  simp only[execOp,resolve,invoke,builtin,Sem.run_bind,Sem.run_pure,Result.andThen_ok,List.map_toArray,List.map_cons,List.map_nil,ha.ev hx,Builtin.clear_,List.getElem?_toArray,List.getElem?_cons_zero,
   run_underlying ht,hu,run_getObj_map hb,iW]
 exact fQ this ⟨hS _ hs,h a _ ha hs (hS _ hs)⟩
end
end Go.SL
namespace Go.Proofs.YtlcoaflddajjcaaGreatDoor
open Go Go.SL
def gE(g:List Int):List (Int × Value):=g.map fun k=>(k,Value.agg #[Value.int .i64 0,Value.bool true])
def PT(g:List Int):(gE g).map (·.1)=g:=by
 unfold gE
 rw[List.map_map]
 exact List.map_id g
def ZF(g:List Int):(gE g).length=g.length:=List.length_map _
def PR(g:List Int)(k:Int):cU (gE g) k=if k∈g then some (Value.agg #[Value.int .i64 0,Value.bool true])else none:=by
 induction g with
 | nil=>rw[if_neg (fun h=>by cases h)];rfl
 | cons x g ih =>
  by_cases h:x=k
  ·subst h
   rw[if_pos (List.mem_cons_self ..)]
   unfold cU gE
   simp only[List.map_cons,List.find?_cons,decide_true,Option.map_some]
  ·have he:cU (gE (x::g)) k=cU (gE g) k:=by
    unfold cU gE
    simp only[List.map_cons,List.find?_cons,h,decide_false]
   rw[he,ih]
   by_cases hk:k∈g
   ·rw[if_pos hk,if_pos (List.mem_cons_of_mem _ hk)]
   ·rw[if_neg hk,if_neg (fun hm=>by
     rcases List.mem_cons.1 hm with e|e
     ·exact h e.symm
     ·exact hk e)]
structure VM where
 self:Mem
 cj:Int
 ks:List Mem
def mO(ks:List Mem)(id:Int):Option Mem:=ks.find? fun x=>decide (x.id=id)
def p5(ks:List Mem)(m:Mem):List Mem:=if m.id∈ks.map Mem.id then ks.map (fun x=>if x.id=m.id then m else x)else ks++[m]
def Qz(x:Mem):Value := .agg (nv x).toArray
def kM(ks:List Mem):List (Int × Value):=ks.map fun x=>(x.id,Qz x)
def r5(ks:List Mem):(kM ks).map (·.1)=ks.map Mem.id:=by simp[kM]
def w4(ks:List Mem)(k:Int):cU (kM ks) k=(mO ks k).map Qz:=by
 unfold cU kM mO
 rw[List.find?_map,Option.map_map]
 rfl
def P0(ks:List Mem)(m:Mem):jG (kM ks) m.id (Qz m)=kM (p5 ks m):=by
 unfold jG p5
 rw[r5]
 split
 ·unfold kM
  rw[List.map_map,List.map_map]
  apply List.map_congr_left
  intro x hx
  simp only[Function.comp]
  split <;> rfl
 ·unfold kM;rw[List.map_append];rfl
def bQ(bv:Nat)(V:VM):HP:=fun h=>∃bm:Nat,True∧Sep [ae bv (cl (nv V.self++[.int .i64 V.cj,.map (some bm)]) 168),aI (Value.int .i64) bm (kM V.ks)] h
def kT(bv:Nat)(V:VM):∀h,bQ bv V h→∃bm:Nat,True∧Sep [ae bv (cl (nv V.self++[.int .i64 V.cj,.map (some bm)]) 168),aI (Value.int .i64) bm (kM V.ks)] h:=fun h hs=>hs
def iD(bv bm:Nat)(V:VM)(H:List HP):ao (ae bv (cl (nv V.self++[.int .i64 V.cj,.map (some bm)]) 168)::aI (Value.int .i64) bm (kM V.ks)::H) (bQ bv V::H) :=
 ao.fold (A:=bQ bv V) (B:=[ae bv (cl (nv V.self++[.int .i64 V.cj,.map (some bm)]) 168),aI (Value.int .i64) bm (kM V.ks)]) fun h hs=>⟨h,sub.refl h,bm,trivial,hs⟩
def k6:jv Tryz.prog 3 (Value.int .i64):=qy Tryz.underlying3
attribute [local irreducible] J K au Ends ae aB aI bB aW aS a7 aX bF bQ
def lJ(n lo hi:Int):au Tryz.prog 67 [.int .i64 n,.int .i64 lo,.int .i64 hi] [] (fun r H=>r = .bool (j7 n lo hi)∧H=[]):=by
 refine au.ak Tryz.func67 Tryz.ntmps67 fun G F R hE=>?_
 repeat'(first|(with_reducible intro jg)|refine er ?_|refine dP zr zr zr zr ?_ ?_|fail)
 ·((refine ad hE Tryz.func67 zr zr ⟨(by unfold j7;rw[decide_eq_true (show lo≤n from jg),Bool.true_and];rfl),rfl⟩))
 ·((refine ad hE Tryz.func67 zr zr ⟨(by unfold j7;rw[decide_eq_false (show ¬lo≤n from jg),Bool.false_and];rfl),rfl⟩))
def Mn(self cj:Int)(hs:j7 self 1 65536=true)(hm:j7 cj 1 64=true) :
  au Tryz.prog 27 [.int .i64 self,.int .i64 cj] [] (fun r H=>∃bv,r = .tuple #[ptr bv,.int .i64 0]∧H=[bQ bv ⟨⟨self,0,1,0⟩,cj,[]⟩]):=by
 refine au.ak Tryz.func27 Tryz.ntmps27 fun G F R hE=>?_
 refine go ?_
 refine aw (lJ self 1 65536) ?_
 rw[hs]
 refine go ?_
 refine aw (lJ cj 1 64) ?_
 rw[hm]
 refine go ?_
 refine eG rfl bh ?_
 intro bm
 refine go ?_
 refine bu zr zr bh ?_
 intro bv
 refine go ?_
 refine al (ao.trans (ao.pick [1] rfl) (ao.head (B:=[aI (Value.int .i64) bm [] ]) (fun h hs=>⟨h,sub.refl h,dG (gA _ bm h hs)⟩))) ?_
 refine al (ao.trans (ao.pick [1,0] rfl) (iD bv bm ⟨⟨self,0,1,0⟩,cj,[]⟩ _)) ?_
 refine ad hE Tryz.func27 zr zr ⟨bv,rfl,rfl⟩
end Go.Proofs.YtlcoaflddajjcaaGreatDoor
namespace Go.Proofs.YtlcoaflddajjcaaGreatDoor
open Go Go.SL
attribute [local irreducible] J K au Ends ae aB aI bB aW
section
variable{P:Program}{U:Tr}[hU:eT P U]{f:FuncId}{n:Nat}{R:Ending→World→Prop}{G:ct}{k:List Item}{L:eH}{H H':List HP}{all:Array Oper}{rest:Pl}{ty:TypeId}{pos:String}{af:Array Edge}{gd:Option (Nat × Bool)}{d:Tmp}
theorem cC{Hs:List HP}{t:TypeId}{x:Operand}{b off:Nat}{bO:Ty}{l:List Value}{e:TypeId}{cs:List Value}(i:Nat)(hd:Nat.blt d n=true)(hx:ev L x=some (.pointer (some ⟨b,off,none⟩)))(hi:bZ Hs i=some (ae b (cl l e)))(ht:U.get t=some bO)(hg:bO.isAgg=true)(hv:rj l off bO.info.size [] = .mk cs)(h:J P f n R G (fun w=>Sat G w Hs) all rest k ((d,.agg cs.toArray)::L) H):J P f n R G (fun w=>Sat G w Hs) all (.cons true true ⟨some d,.load t x,ty,pos,af,gd⟩ rest) k L H :=
 kF hd (fun a w ha hw=>by
  obtain⟨h1,h2⟩:=BS _ _ _ _ _ hv
  simp only[List.reverse_nil,List.nil_append]at h1
  have hc:∀j v,cs[j]?=some v→w.cell? ⟨b,off+j,none⟩=some v:=fun j v hj=>by
   grind [di,Sat.qF]
  have:=gu (P:=P) ht hg (by rw[h1];simp;omega) hc
  simp[execOp,ha.ev hx,this]) h
end
end Go.Proofs.YtlcoaflddajjcaaGreatDoor
namespace Go.Proofs.YtlcoaflddajjcaaGreatDoor
open Go Go.SL
def BB:MV:=⟨.slice none 0 0,.slice none 0 0,.slice none 0 0,.slice none 0 0⟩
attribute [local irreducible] J K au Ends ae aB aI bB aW aS a7 aX bF
def Cv(k:Int)(d:Dg):au Tryz.prog 80 [.int .i64 k,dV d] [] (fun r H=>r = .agg (mC BB { mY.zero with kind:=k,hash:=d }).toArray∧H=[]):=by
 unfold dV
 refine au.ak Tryz.func80 Tryz.ntmps80 fun G F R hE=>?_
 refine aD rfl ?_
 refine bu zr zr bh ?_
 intro b3
 refine az zr zr zr bh ?_
 intro b4
 refine go ?_
 refine aO (U:=aU) (l:=dC d) 1 zr zr zr zr zr zr (go ?_)
 (refine a6 hE ?_;apply aZ (U:=aU) hE Tryz.func80 rfl (ao.refl _);(repeat(first|exact aR.nil|apply aR.agg 0 zr zr zr zr zr));exact⟨rfl,rfl⟩;exact ag)
section
variable(nb:Nat)(id:Int)(S:sP)(st tb bv kb hb ms mg:Nat)(pv:Value)(br:Bool)
def Nh(now:Int):au Tryz.prog 79 [ptr nb,.int .i64 (-1),.int .i64 now] [ae nb (cl (cy id S st tb bv kb hb pv ms mg br) 98)] (fun r H=>r = .bool true∧H=[ae nb (cl (cy id S st tb bv kb hb pv ms mg br) 98)]):=by
 refine au.ak Tryz.func79 Tryz.ntmps79 fun G F R hE=>?_
 refine go ?_
 refine ad hE Tryz.func79 zr zr ⟨rfl,rfl⟩
end
end Go.Proofs.YtlcoaflddajjcaaGreatDoor
namespace Go.Proofs.YtlcoaflddajjcaaGreatDoor
open Go Go.SL
variable{A:Ab}{k s:ByteArray}{files:List (Nat × Value × Value)}{H:List HP}{f i:Nat}{v v1 v2:Value}{w:World}{G:ct}
attribute [local irreducible] J K au Ends ae aB aI bB aW
def uS(A X:HP)(v:Value)(bs:List UInt8)(hv:Vw A v bs.length (bV bs))(hlen:bs.length≤9223372036854775807)(g:FuncId)(cap:List Value)(p:UInt8→Bool)(hf:∀x∈bs,au Tryz.prog g (u8 x::cap) [X] (fun v H=>v = .bool (p x)∧H=[X])) :
  au Tryz.prog 414 [v,.func (.func g) #[] cap.toArray] [A,X] (fun r H=>r = .int .i64 (gM p bs)∧H=[A,X]):=by
 obtain⟨a,c0,rfl⟩:=hv.shape
 refine au.enter Tryz.func414 ah rfl Tryz.ntmps414 zr zr ?_
 intro G F R hR
 refine go ?_
 refine bj (fun i:Nat=>i≤bs.length∧∀y∈bs.take i,p y=false) (fun i=>bs.length-i) (fun i=>[(0,.slice a bs.length c0),(1,.func (.func g) #[] cap.toArray),(7,.int .i64 bs.length),(8,.int .i64 i)]) (fun _=>[A,X]++F) 0 ⟨by simp,by simp⟩ rfl bS (ao.refl _) ?_
 rintro i⟨hi,hb⟩ ih
 refine go ?_
 refine aq zr zr ?_ ?_
 ·intro cL
  refine go ?_
  have dA:i<bs.length:=by omega
  obtain⟨b,o,eY,dL⟩:=hv.some (by rw[← List.length_pos_iff,bD];omega)
  simp only[Value.slice.injEq]at dL
  obtain⟨rfl,_,rfl⟩:=dL
  refine bp i zr zr zr zr zr zr zr zr dA ?_
  have hx:bs[i]?=some bs[i]:=by simp[dA]
  refine vk (U:=aU) 0 zr zr zr (hv.cell (tO hx)) zr zr ?_
  refine cg [1] zr zr zr zr (hf bs[i] (List.getElem_mem dA)) rfl jk ?_
  rintro _ _⟨rfl,rfl⟩
  refine go ?_
  refine dY zr zr ?_ ?_
  ·intro hp
   refine go ?_
   refine aK hR Tryz.func414 rfl _ rfl ⟨by rw[gL hx hp hb];rfl,rfl⟩ (ao.fin [1,0] 0 zr zr)
  ·intro hp
   refine go ?_
   refine aM ih (i+1) rfl ⟨ai,kC hb hx hp⟩ ai bS (ao.pick [1,0] rfl)
 ·intro ep
  refine go ?_
  have:i=bs.length:=by omega
  subst this
  refine aK hR Tryz.func414 rfl _ rfl ⟨by rw[iF (fun x hx=>hb x (by simpa using hx))];rfl,rfl⟩ (ao.fin [0,1] 0 zr zr)
def okc(x:UInt8):Bool:=decide (97≤x.toNat∧x.toNat≤122∨48≤x.toNat∧x.toNat≤57∨x.toNat=45∨x.toNat=46)
def Ix(X:HP)(x:UInt8):au Tryz.prog 330 [u8 x] [X] (fun v H=>v = .bool (!okc x)∧H=[X]):=by
 refine au.enter Tryz.func330 ah rfl Tryz.ntmps330 zr zr ?_
 intro G F R hR
 have hx:=aac x
 repeat'(first|(with_reducible intro jg)|refine er ?_|refine dP zr zr zr zr ?_ ?_|fail)
 all_goals refine aK hR Tryz.func330 rfl _ rfl ⟨congrArg Value.bool (by rw[Bool.eq_iff_iff];simp[okc];omega),rfl⟩ (ao.fin [0] 0 zr zr)
theorem qU(A X:HP)(v:Value)(bs:List UInt8)(hv:Vw A v bs.length (bV bs))(hlen:bs.length≤9223372036854775807)(g:FuncId)(cap:List Value)(p:UInt8→Bool)(hf:∀x∈bs,au Tryz.prog g (u8 x::cap) [X] (fun v H=>v = .bool (p x)∧H=[X])) :
  au Tryz.prog 331 [v,.func (.func g) #[] cap.toArray] [A,X] (fun r H=>r = .bool (bs.any p)∧H=[A,X]):=by
 refine au.enter Tryz.func331 ah rfl Tryz.ntmps331 zr zr ?_
 intro G F R hR
 refine go ?_
 refine cg [0,1] zr zr zr zr (uS A X v bs hv hlen g cap p hf) rfl jk ?_
 rintro _ _⟨rfl,rfl⟩
 refine go ?_
 have hb:decide (0≤gM p bs)=bs.any p:=by
  have := @jQ _ p bs
  cases h:bs.any p with
  | false=>rw[h]at this;exact decide_eq_false (by have:=this.2 rfl;omega)
  | true =>
   grind
 refine aK hR Tryz.func331 rfl _ rfl ⟨congrArg Value.bool hb,rfl⟩ (ao.fin [0,1] 0 zr zr)
def isName(s:ByteArray):Bool:=decide (1≤s.size∧s.size≤80) && s.data.toList.all okc
theorem I6(h1:1≤s.size)(h2:s.size≤80):isName s = !(s.data.toList.any fun x => !okc x):=by
 grind [isName]
theorem AP(h1:s.size<1):isName s=false:=by simp[isName];omega
theorem CF(h1:80<s.size):isName s=false:=by simp[isName];omega
theorem iE(A:HP)(v:Value)(l:List ByteArray)(hv:Vw A v l.length (l.map Value.string))(hlen:l.length≤1000000) :
  au Tryz.prog 222 [v] [A] (fun r H=>r = .bool (l.all isName)∧H=[A]):=by
 obtain⟨a,c0,rfl⟩:=hv.shape
 refine au.enter Tryz.func222 ah rfl Tryz.ntmps222 zr zr ?_
 intro G F R hR
 refine al (ao.lj _) (go ?_)
 refine bj (fun i:Nat=>i≤l.length∧∀y∈l.take i,isName y=true) (fun i=>l.length-i) (fun i=>[(3,.func (.func 330) #[] #[]),(6,.slice a l.length c0),(7,.int .i64 l.length),(8,.int .i64 i)]) (fun _=>emp::([A]++F)) 0 ⟨by simp,by simp⟩ rfl bS (ao.refl _) ?_
 rintro i⟨hi,hb⟩ ih
 refine go ?_
 refine aq zr zr ?_ ?_
 ·intro cL
  refine go ?_
  have dA:i<l.length:=by omega
  obtain⟨b,o,eY,dL⟩:=hv.some (by rw[← List.length_pos_iff,List.length_map];omega)
  simp only[Value.slice.injEq]at dL
  obtain⟨rfl,_,rfl⟩:=dL
  refine bp i zr zr zr zr zr zr zr zr dA ?_
  obtain⟨s,hs⟩:∃s,l[i]?=some s:=⟨l[i],by simp[dA]⟩
  refine vk (U:=aU) 1 zr zr zr (hv.cell (c := .string s) (by simp[hs])) zr zr ?_
  have eR:s∈l:=List.mem_of_getElem? hs
  repeat'(first|(with_reducible intro jg)|refine er ?_|refine dP zr zr zr zr ?_ ?_|fail)
  ·have hn:l.all isName=false:=by
    grind [AP]
   refine aK hR Tryz.func222 rfl _ rfl ⟨congrArg Value.bool hn.symm,rfl⟩ (ao.fin [1] 1 zr zr)
  ·have hn:l.all isName=false:=by
    grind [CF]
   refine aK hR Tryz.func222 rfl _ rfl ⟨congrArg Value.bool hn.symm,rfl⟩ (ao.fin [1] 1 zr zr)
  ·have tA:=I6 (s:=s) ai ai
   refine Km (U:=aU) zr zr zr zr zr zr zr zr (fun _ _ _ _=>trivial) ?_
   intro bb cc
   refine go ?_
   refine cg [0,1] zr zr zr zr (qU (aW bb s _ cc) emp _ s.data.toList (by simpa using Ey bb s _ cc cc) (by simp;omega) _ [] _ (fun x _=>Ix emp x)) rfl jk ?_
   rintro _ _⟨rfl,rfl⟩
   refine go ?_
   refine dY zr zr ?_ ?_
   ·intro ht
    refine go ?_
    have hn:l.all isName=false:=by
     grind
    refine aK hR Tryz.func222 rfl _ rfl ⟨congrArg Value.bool hn.symm,rfl⟩ (ao.fin [2] 2 zr zr)
   ·intro hf
    refine go ?_
    refine aM ih (i+1) rfl ⟨ai,kC hb hs (by rw[tA,hf];rfl)⟩ ai bS (ao.to [1,2] 1 zr zr zr)
 ·intro ep
  refine go ?_
  have:i=l.length:=by omega
  subst this
  refine aK hR Tryz.func222 rfl _ rfl ⟨congrArg Value.bool (by rw[eq_comm,List.all_eq_true];intro x hx;exact hb x (by simpa using hx)),rfl⟩ (ao.fin [1] 1 rfl rfl)
theorem Ia(A:HP)(v1 v2:Value)(old b:List UInt8)(at_:Nat)(h1:Vw A v1 old.length (bV old))(h2:Vw A v2 b.length (bV b))(hb:old.length+at_+b.length≤1000000000) :
  au Tryz.prog 297 [v1,.int .i64 at_,v2] [A] (fun r H=>∃bl cap,r = .slice (some ⟨bl,0,none⟩) (eU old at_ b).length cap∧(eU old at_ b).length≤cap∧H=[ae bl (cl (bV (eU old at_ b)) 5),A]):=by
 obtain⟨a1,c1,rfl⟩:=h1.shape
 obtain⟨a2,c2,rfl⟩:=h2.shape
 refine au.enter Tryz.func297 ah rfl Tryz.ntmps297 zr zr ?_
 intro G F R hR
 refine go ?_
 have hN:(max old.length (at_+b.length):Nat)=max old.length (at_+b.length):=rfl
 generalize hM:max old.length (at_+b.length)=M at *
 refine aG 14 (.int .i64 (M:Int)) rfl (congrArg (Value.int .i64) ai) ?_
 refine il (p:=M) (q:=M) zr zr zr zr zr zr zr zr zr (Nat.le_refl _) ai (by show 1*M≤_;omega) bh ?_
 intro bl
 refine go ?_
 refine N3 (U:=aU) (src:=bV old) (mm:=old.length) (l':=bV (old++List.replicate (M-old.length) 0)) 0 1 zr zr zr zr zr zr zr zr h1 (by show _=_*1;rw[bD];omega) (cB old) (by show 0+_*1≤_;simp;omega) ?_ rfl e8 ?_
 ·show bV (old++List.replicate (M-old.length) 0)=List.take 0 (List.replicate M (Value.int .u8 0))++List.take (min old.length M*1) (bV old)++List.drop (0+min old.length M*1) (List.replicate M (Value.int .u8 0))
  have e:min old.length M*1=old.length:=by omega
  rw[e,List.take_of_length_le (l:=bV old) (by rw[bD];omega)]
  simp[bV,u8]
 refine go ?_
 refine iH zr zr zr zr zr zr zr ai ai (.inl rfl) ?_
 intro o' Hi KJ
 have hA:at_≠M→o'=at_:=fun h=>by have:=Hi (by simpa using h);rw[this];show 0+(at_:Int).toNat*1=at_;simp
 have hB:at_=M→o'=0:=fun h=>KJ (by simpa using h)
 clear Hi KJ
 have Y8:(min b.length ((M:Int).toNat-(at_:Int).toNat))*1=b.length:=by simp;omega
 refine go ?_
 refine N3 (U:=aU) (src:=bV b) (mm:=b.length) (l':=bV (eU old at_ b)) 0 1 zr zr zr zr zr zr zr zr h2 (by show _=_*1;rw[bD];omega) (cB b) ?_ ?_ rfl e8 ?_
 ·show o'+(min b.length ((M:Int).toNat-(at_:Int).toNat))*1≤_
  grind [bD]
 ·show bV (eU old at_ b)=List.take o' _++List.take (min b.length ((M:Int).toNat-(at_:Int).toNat)*1) (bV b)++List.drop (o'+min b.length ((M:Int).toNat-(at_:Int).toNat)*1) _
  rw[Y8,List.take_of_length_le (l:=bV b) (by rw[bD];omega)]
  have Y0:at_+b.length-old.length=M-old.length:=by omega
  unfold eU
  rw[Y0]
  by_cases h:at_=M
  ·have h3:=hB h
   have h4:b=[]:=List.eq_nil_of_length_eq_zero ai
   grind [bV]
  ·rw[hA h]
   simp[bV]
 ·have hl:(eU old at_ b).length=M:=by unfold eU;simp;omega
  rw[← hl]
  refine go ?_
  refine aK hR Tryz.func297 rfl _ rfl ⟨bl,_,rfl,Nat.le_refl _,rfl⟩ (ao.fin [0,1] 0 zr zr)
attribute [local irreducible] aS a7
def fk(l:List (ByteArray × Nat)):List (ByteArray × Value):=l.map fun x=>(x.1,ptr x.2)
structure Dk where
 room:Nat
 bm:Nat
 mz:Value
 nV:Value
 oC:Value
 off:Bool
 maps:List (Nat × List (ByteArray × Value))
 fy:fJ
 files:List (Nat × Value × Value)
 lx:List Nat
 wl:List (Nat × Nat × Value)
def mF(x:Nat × List (ByteArray × Value)):HP:=aI Value.string x.1 x.2
def gk(x:Nat × Value × Value):HP:=ae x.1 (cl [x.2.1,x.2.2] 355)
def eJ(l:List (Nat × Nat × Value)):List Value:=l.flatMap fun x=>[ptr x.1,.int .i64 x.2.1,x.2.2]
def Q8(bd:Nat)(D:Dk):List HP :=
  [ae bd (cl [.int .i64 D.room,.map (some D.bm),D.mz,D.nV,D.oC,.bool D.off] 72),aS mF D.maps,a7 5 D.fy,aS gk D.files,
   aB 68 1 D.mz D.lx.length (D.lx.map fun b => .map (some b)),aB 410 3 D.nV D.wl.length (eJ D.wl)]
def gn(bd:Nat)(D:Dk):HP:=Sep (Q8 bd D)
def iz(bd room bm:Nat)(mz nV oC:Value)(off:Bool)(maps:List (Nat × List (ByteArray × Value)))(fy:fJ)(files:List (Nat × Value × Value))(lx:List Nat)(wl:List (Nat × Nat × Value))(H:List HP) :
  ao (gn bd ⟨room,bm,mz,nV,oC,off,maps,fy,files,lx,wl⟩::H)
   (ae bd (cl [.int .i64 room,.map (some bm),mz,nV,oC,.bool off] 72)::aS mF maps::a7 5 fy::aS gk files::aB 68 1 mz lx.length (lx.map fun b => .map (some b))::aB 410 3 nV wl.length (eJ wl)::H):=ao.bY _ _
def dU(bd room bm:Nat)(mz nV oC:Value)(off:Bool)(maps:List (Nat × List (ByteArray × Value)))(fy:fJ)(files:List (Nat × Value × Value))(lx:List Nat)(wl:List (Nat × Nat × Value))(H:List HP) :
  ao (ae bd (cl [.int .i64 room,.map (some bm),mz,nV,oC,.bool off] 72)::aS mF maps::a7 5 fy::aS gk files::aB 68 1 mz lx.length (lx.map fun b => .map (some b))::aB 410 3 nV wl.length (eJ wl)::H)
   (gn bd ⟨room,bm,mz,nV,oC,off,maps,fy,files,lx,wl⟩::H):=ao.bK (Q8 bd ⟨room,bm,mz,nV,oC,off,maps,fy,files,lx,wl⟩) H
structure Rel(D:Dk)(A:Ab):Prop where
 room:D.room=A.room
 off:D.off=A.off
 names:(D.bm,fk A.names)∈D.maps
 aV:fK (fun b es=>(b,fk es)∈D.maps) D.lx A.aV
 fs:fK (fun x y=>x.1=y.1∧lX D.fy x.2.1 y.2.1∧lX D.fy x.2.2 y.2.2) D.files A.fs
 writes:fK (fun x y=>x.1=y.1∧x.2.1=y.2.1∧lX D.fy x.2.2 y.2.2) D.wl A.writes
 dN:lX D.fy D.oC A.dN
 ids:(A.fs.map (·.1)).Nodup
 known:∀st∈A.names::A.aV,∀x∈st,x.2∈A.fs.map (·.1)
 gV:∀x∈A.writes,x.1∈A.fs.map (·.1)
 nodup:∀st∈A.names::A.aV,(st.map (·.1)).Nodup
 gb:∀x∈A.fs,x.2.1.length≤1048576∧x.2.2.length≤1048576
 iw:∀x∈A.writes,x.2.1+x.2.2.length≤1048576
 fj:∀st∈A.names::A.aV,st.length≤200
 gU:A.room≤1073741824
 jZ:A.dN.length≤1000000000
 full:A.aV≠[]
def Rel.OH{D:Dk}(h:Rel D A){p:List UInt8}(o:Bool)(hp:lX D.fy v p)(hl:p.length≤1000000000):Rel { D with oC:=v,off:=o } { A with dN:=p,off:=o } :=
 ⟨h.room,rfl,h.names,h.aV,h.fs,h.writes,hp,h.ids,h.known,h.gV,h.nodup,h.gb,h.iw,h.fj,h.gU,hl,h.full⟩
def Rel.Lo{D:Dk}(h:Rel D A){p:List UInt8}(hp:lX D.fy v p)(hl:p.length≤1000000000):Rel { D with oC:=v } { A with dN:=p } :=
 ⟨h.room,h.off,h.names,h.aV,h.fs,h.writes,hp,h.ids,h.known,h.gV,h.nodup,h.gb,h.iw,h.fj,h.gU,hl,h.full⟩
def wo(bd:Nat)(D:Dk)(A:Ab)(hR:Rel D A)(may:Bool) :
  au Tryz.prog 121 [ptr bd,.bool may] [gn bd D] (fun v H=>∃D',Rel D' (A.meet may).2∧H=[gn bd D']∧v = .int .i64 (A.meet may).1):=by
 obtain⟨room,bm,mz,nV,oC,off,maps,fy,files,lx,wl⟩:=D
 obtain⟨a,cap,AT,fY⟩:=hR.dN.shape
 simp only at AT
 subst AT
 have jR:=hR.off
 simp only at jR
 refine au.ak Tryz.func121 Tryz.ntmps121 fun G F R hE=>?_
 refine al (iz _ _ _ _ _ _ _ _ _ _ _ _ _) ?_
 cases may with
 | false =>
  refine go ?_
  refine aK hE Tryz.func121 rfl _ rfl ⟨_,hR,rfl,rfl⟩ ((ao.pick [0,1,2,3,4,5] rfl).trans (dU _ _ _ _ _ _ _ _ _ _ _ _ _))
 | true =>
  cases off with
  | true =>
   have hm:A.meet true=(7,A):=by simp[Ab.meet,← jR]
   rw[hm]at hE
   refine go ?_
   refine aK hE Tryz.func121 rfl _ rfl ⟨_,hR,rfl,rfl⟩ ((ao.pick [0,1,2,3,4,5] rfl).trans (dU _ _ _ _ _ _ _ _ _ _ _ _ _))
  | false =>
   refine go ?_
   refine dY zr zr ?_ ?_
   ·intro h0
    have od:A.dN=[]:=List.eq_nil_of_length_eq_zero (by have:=of_decide_eq_true h0;omega)
    have hm:A.meet true=(0,A):=by simp[Ab.meet,← jR,od]
    rw[hm]at hE
    refine go ?_
    refine aK hE Tryz.func121 rfl _ rfl ⟨_,hR,rfl,rfl⟩ ((ao.pick [0,1,2,3,4,5] rfl).trans (dU _ _ _ _ _ _ _ _ _ _ _ _ _))
   ·intro h0
    obtain⟨x,p,Fl⟩:∃x p,A.dN=x::p:=by
     cases h:A.dN with
     | nil=>rw[h]at h0;simp at h0
     | cons x p=>exact⟨x,p,rfl⟩
    have hm:A.meet true=if x=1 then(6,{ A with dN:=p })else if x=2 then(7,{ A with dN:=p,off:=true })else(0,{ A with dN:=p }):=by simp[Ab.meet,← jR,Fl]
    have Zt:lX fy (.slice a A.dN.length cap) (x::p):=by have:=hR.dN;rw[Fl]at this;rw[Fl];exact this
    have hlen:A.dN.length=p.length+1:=by rw[Fl];rfl
    have xW:=hR.jZ
    obtain⟨b,o,eY,dL⟩:=(Zt.view 5).some (by simp[bV])
    simp only[Value.slice.injEq]at dL
    obtain⟨rfl,_,rfl⟩:=dL
    refine go ?_
    refine bp 0 zr zr zr zr zr zr zr zr ai ?_
    refine vk (U:=aU) 2 zr zr zr (Vw.cell (cap:=cap) (n:=(x::p).length) (cs:=bV (x::p)) (by rw[← Fl];exact hR.dN.view _) (c:=u8 x) (by simp[bV])) zr zr ?_
    refine go ?_
    refine iH zr zr zr zr zr zr zr ai ai (.inl rfl) ?_
    intro o' Hi _
    have hn:(A.dN.length:Int).toNat-(1:Int).toNat=p.length:=by omega
    rw[hn]
    have hp:lX fy (.slice (some ⟨b,o',none⟩) p.length (cap-(1:Int).toNat)) p:=Zt.tail o' _ (fun fu=>Hi (by
     have:0<p.length:=List.length_pos_iff.2 fu
     omega)) ai
    have hoA:A.off=false:=jR.symm
    have hR1:=hR.Lo hp ai
    have PN:=hR.OH true hp ai
    clear Zt hp Hi
    refine go ?_
    refine aq zr zr ?_ ?_
    ·intro hx
     have QI:x=1:=K6 hx
     rw[hm,if_pos QI]at hE
     refine go ?_
     refine aK hE Tryz.func121 rfl _ rfl ⟨_,hR1,rfl,rfl⟩ ((ao.pick [0,1,2,3,4,5] rfl).trans (dU _ _ _ _ _ _ _ _ _ _ _ _ _))
    ·intro hx
     have QI:x≠1:=fun h=>hx (by rw[h];rfl)
     refine go ?_
     refine aq zr zr ?_ ?_
     ·intro hy
      have CG:x=2:=K6 hy
      rw[hm,if_neg QI,if_pos CG]at hE
      refine go ?_
      refine aK hE Tryz.func121 rfl _ rfl ⟨_,PN,rfl,rfl⟩ ((ao.pick [0,1,2,3,4,5] rfl).trans (dU _ _ _ _ _ _ _ _ _ _ _ _ _))
     ·intro hy
      have CG:x≠2:=fun h=>hy (by rw[h];rfl)
      rw[hm,if_neg QI,if_neg CG]at hE
      refine go ?_
      refine aK hE Tryz.func121 rfl _ rfl ⟨_,hR1,rfl,rfl⟩ ((ao.pick [0,1,2,3,4,5] rfl).trans (dU _ _ _ _ _ _ _ _ _ _ _ _ _))
theorem nJ(l:List (ByteArray × Nat))(name:ByteArray):cU (fk l) name=(Ab.dy l name).map ptr:=by
 unfold cU Ab.dy fk
 induction l with
 | nil=>rfl
 | cons x l ih =>
  grind
def iS{maps:List (Nat × List (ByteArray × Value))}{b:Nat}{es:List (ByteArray × Value)}(hs:Sat G w H)(hi:bZ H i=some (aS mF maps))(hm:(b,es)∈maps) :
  ∃o,oH Value.string o es∧w.heap[b]?=some o:=by
 obtain⟨h,hh,hA⟩:=hs.jF hi
 obtain⟨h',s,hb⟩:=yV hm hA
 unfold mF aI at hb
 obtain⟨o,ho,hp⟩:=hb
 unfold ae at hp
 exact⟨o,ho,hh b o (s b o (by rw[hp b];simp))⟩
def yl:jv Tryz.prog 9 Value.string:=Mv Tryz.underlying9
def YC:Option Nat→Value
 | none => .pointer none
 | some f=>ptr f
def i'(bd:Nat)(D:Dk)(A:Ab)(hR:Rel D A)(name:ByteArray)(may:Bool) :
  au Tryz.prog 221 [ptr bd,.string name,.bool may] [gn bd D] (fun v H=>∃D',Rel D' (A.find name may).2.2∧H=[gn bd D']∧v = .tuple #[YC (A.find name may).2.1,.int .i64 (A.find name may).1]):=by
 refine au.ak Tryz.func221 Tryz.ntmps221 fun G F R hE=>?_
 refine go ?_
 refine cg [0] zr zr zr zr (wo bd D A hR may) rfl jk ?_
 rintro _ _⟨D',fA,rfl,rfl⟩
 refine go ?_
 refine dY zr zr ?_ ?_
 ·intro h0
  have od:¬(A.meet may).1=0:=by have:=of_decide_eq_true h0;omega
  have hf:A.find name may=((A.meet may).1,none,(A.meet may).2):=by simp[Ab.find,od]
  rw[hf]at hE
  refine go ?_
  refine aK hE Tryz.func221 rfl _ rfl ⟨D',fA,rfl,rfl⟩ (ao.pick [0] rfl)
 ·intro h0
  have od:(A.meet may).1=0:=by have:=of_decide_eq_false h0;omega
  obtain⟨room,bm,mz,nV,oC,off,maps,fy,files,lx,wl⟩:=D'
  refine al (iz _ _ _ _ _ _ _ _ _ _ _ _ _) (go ?_)
  refine px (U:=aU) rfl yl zr zr zr zr zr zr zr (fun w hw=>iS (i:=1) hw rfl fA.names) ?_
  rw[nJ]
  cases hl:Ab.dy (A.meet may).2.names name with
  | none =>
   have hf:A.find name may=(4,none,(A.meet may).2):=by simp[Ab.find,od,Ab.look,hl]
   rw[hf]at hE
   refine go ?_
   refine aK hE Tryz.func221 rfl _ rfl ⟨_,fA,rfl,rfl⟩ ((ao.pick [0,1,2,3,4,5] rfl).trans (dU _ _ _ _ _ _ _ _ _ _ _ _ _))
  | some fl =>
   have hf:A.find name may=(0,some fl,(A.meet may).2):=by simp[Ab.find,od,Ab.look,hl]
   rw[hf]at hE
   refine go ?_
   refine aK hE Tryz.func221 rfl _ rfl ⟨_,fA,rfl,rfl⟩ ((ao.pick [0,1,2,3,4,5] rfl).trans (dU _ _ _ _ _ _ _ _ _ _ _ _ _))
theorem FI{α:Type}{l:List (Nat × α)}(hn:(l.map (·.1)).Nodup){x:α}(hi:l[i]?=some (f,x)):(l.find? fun x=>decide (x.1=f))=some (f,x):=by
 induction l generalizing i with
 | nil=>simp at hi
 | cons y l ih =>
  grind
def Rel.file{D:Dk}(h:Rel D A)(hf:f∈A.fs.map (·.1)):∃(i:Nat) (v1 v2:Value),D.files[i]?=some (f,v1,v2)∧A.fs[i]?=some (f,A.now f,A.sure f)∧lX D.fy v1 (A.now f)∧lX D.fy v2 (A.sure f):=by
 obtain⟨⟨f',n,s⟩,hm,rfl⟩:=List.mem_map.1 hf
 obtain⟨i,hi⟩:=List.getElem?_of_mem hm
 obtain⟨⟨f2,v1,v2⟩,hx,h1,h2,h3⟩:=h.fs.right hi
 simp only at h1 h2 h3
 subst h1
 have zx:A.file f2=(n,s):=by unfold Ab.file;rw[FI h.ids hi];rfl
 refine⟨i,v1,v2,hx,?_,?_,?_⟩
 ·rw[hi];simp[Ab.now,Ab.sure,zx]
 ·simpa[Ab.now,zx]using h2
 ·simpa[Ab.sure,zx]using h3
def Rel.small{D:Dk}(h:Rel D A)(f:Nat):(A.now f).length≤1048576∧(A.sure f).length≤1048576:=by
 unfold Ab.now Ab.sure Ab.file
 cases hf:A.fs.find? fun x=>decide (x.1=f)with
 | none=>simp
 | some x=>simpa using h.gb x (List.mem_of_find?_eq_some hf)
def wZ{j:Nat}(hs:Sat G w H)(hi:bZ H i=some (aS gk files))(hm:files[j]?=some (f,v1,v2)) :
  w.heap[f]?=some (cl [v1,v2] 355):=by
 obtain⟨h,hh,hA⟩:=hs.jF hi
 obtain⟨h',s,hb⟩:=yV (List.mem_of_getElem? hm) hA
 unfold gk ae at hb
 exact hh f _ (s f _ (by rw[hb f];simp))
def rZ{j:Nat}(hs:Sat G w H)(hi:bZ H i=some (aS gk files))(hm:files[j]?=some (f,v1,v2)) :
  w.cell? ⟨f,0,none⟩=some v1:=by rw[di (wZ hs hi hm)];rfl
theorem wx{l:List (ByteArray × Nat)}(hn:(l.map (·.1)).Nodup)(h:(k,f)∈l):Ab.dy l k=some f:=by
  obtain⟨i,hi⟩:=List.getElem?_of_mem h
  have:cU (l.map fun x=>(x.1,Value.int .i64 x.2)) k=some (.int .i64 f):=zS (i:=i) (by simp[hi]) (fun j hj he=>by
    rw[List.map_map]at he
    have h1:(l.map (·.1))[j]?=(l.map (·.1))[i]? := by
      grind
    have:=(List.getElem?_inj (by
      rcases Nat.lt_or_ge j (l.map (·.1)).length with h|h
      · exact h
      · rw[List.getElem?_eq_none h]at h1;simp[hi]at h1) hn).1 h1
    omega)
  unfold cU at this
  unfold Ab.dy
  rw[List.find?_map]at this
  simp only[Option.map_map]at this
  cases hx:l.find? fun x=>decide (x.1=k)with
  | none => have e : (l.find? ((fun x => decide (x.1 = k)) ∘ fun x => (x.1, Value.int IntKind.i64 (x.2 : Nat)))) = none := hx
            rw[e]at this;cases this
  | some y => 
    have e:(l.find? ((fun x=>decide (x.1=k)) ∘ fun x=>(x.1,Value.int IntKind.i64 (x.2:Nat))))=some y:=hx
    grind
theorem oI{l:List (ByteArray × Nat)}(h:Ab.dy l k=some f):(k,f)∈l:=by
 unfold Ab.dy at h
 cases hx:l.find? fun x=>decide (x.1=k)with
 | none=>rw[hx]at h;cases h
 | some y =>
  grind
def lenOf(A:Ab)(k:ByteArray):Nat:=(A.look k).elim 0 fun f=>(A.now f).length
def sumOf(A:Ab)(l:List ByteArray):Nat:=(l.map (lenOf A)).sum
theorem BT(h:∀f,(A.now f).length≤1048576)(l:List ByteArray):sumOf A l≤l.length*1048576:=by
 induction l with
 | nil=>simp[sumOf]
 | cons k l ih =>
  have h1:lenOf A k≤1048576:=by unfold lenOf;cases A.look k with|none=>simp|some f=>exact h f
  grind [sumOf]
def E9{α:Type}[DecidableEq α]{l r:List α}(h1:l.Nodup)(h2:r.Nodup)(h:∀x,x∈l↔x∈r):l.Perm r:=(List.perm_ext_iff_of_nodup h1 h2).2 h
theorem zi{α:Type}[DecidableEq α]{l r:List α}(h1:l.Nodup)(h:∀x∈l,x∈r):l.length≤r.length:=by
 induction l generalizing r with
 | nil=>simp
 | cons x l ih =>
  simp only[List.nodup_cons]at h1
  have:=ih (r:=r.erase x) h1.2 (fun y hy=>(List.mem_erase_of_ne (by rintro rfl;exact h1.1 hy)).2 (h y (by simp[hy])))
  grind
def vF(hn:(A.names.map (·.1)).Nodup):sumOf A (A.names.map (·.1))=A.used:=by
 unfold sumOf Ab.used
 rw[List.map_map]
 congr 1
 apply List.map_congr_left
 rintro⟨k,f⟩ hx
 have:A.look k=some f:=wx hn hx
 simp[lenOf,this]
theorem NB(bd:Nat)(D:Dk)(A:Ab)(hR:Rel D A) :
  au Tryz.prog 296 [ptr bd] [gn bd D] (fun v H=>H=[gn bd D]∧v = .int .i64 A.used):=by
 obtain⟨room,bm,mz,nV,oC,off,maps,fy,files,lx,wl⟩:=D
 refine au.ak Tryz.func296 Tryz.ntmps296 fun G F R hE=>?_
 refine al (iz _ _ _ _ _ _ _ _ _ _ _ _ _) (go ?_)
 obtain⟨j,hj⟩:=List.getElem?_of_mem hR.names
 simp only at hj
 refine aN (ao.pick [1] rfl) ?_
 refine aN (kG mF hj _) ?_
 refine nL (kv:=Value.string) (es:=fk A.names) (U:=aU) 0 zr zr zr zr zr (fun _=>rfl) bh ?_
 intro it
 refine go ?_
 have iK:=hR.nodup _ (List.mem_cons_self ..)
 have Ho:(fk A.names).map (·.1)=A.names.map (·.1):=by simp[fk,Function.comp_def]
 refine bj (fun dn:List ByteArray=>dn.Nodup∧∀x∈dn,x∈A.names.map (·.1)) (fun dn=>A.names.length-dn.length)
  (fun dn=>[(3,.int .i64 (sumOf A dn)),(10,.pointer (some ⟨it,0,none⟩))])
  (fun dn=>bB Value.string bm it (fk A.names) dn::aS mF (maps.eraseIdx j)::ae bd (cl [.int .i64 room,.map (some bm),mz,nV,oC,.bool off] 72)::a7 5 fy::aS gk files::aB 68 1 mz lx.length (lx.map fun b => .map (some b))::aB 410 3 nV wl.length (eJ wl)::F)
  [] ⟨List.nodup_nil,by simp⟩ rfl bS (ao.refl _) ?_
 rintro dn⟨nE,dj⟩ ih
 have hlen:=zi nE dj
 have hb:=BT (fun f=>(hR.small f).1) dn
 have hN:=hR.fj _ (List.mem_cons_self ..)
 rw[List.length_map]at hlen
 refine go ?_
 refine qR (kv:=Value.string) (es:=fk A.names) 0 rfl yl.inj zr zr (fun _=>rfl) e8 bh ?_ ?_
 ·intro fI
  refine go ?_
  have hp:sumOf A dn=A.used:=by
   rw[← vF iK]
   refine List.Perm.sum_nat ((E9 nE iK fun x=>⟨dj x,fun hx=>?_⟩).map _)
   grind
  refine al ((ao.head (B:=[mF (bm,fk A.names)]) (fun h hs=>by obtain⟨h',s,hm⟩:=jD h hs;exact⟨h',s,dG hm⟩)).trans (rk mF hj _)) ?_
  rw[hp]
  refine aK hE Tryz.func296 rfl _ rfl ⟨rfl,rfl⟩ ((ao.pick [1,0] rfl).trans ((ao.pick [0,1,2,3,4,5] rfl).trans (dU _ _ _ _ _ _ _ _ _ _ _ _ _)))
 ·intro key v eR mK
  obtain⟨⟨k',f⟩,hx,Pa⟩:=List.mem_map.1 eR
  simp only[Prod.mk.injEq]at Pa
  obtain⟨rfl,rfl⟩:=Pa
  refine go ?_
  refine nN (kv:=Value.string) (es:=fk A.names) 0 rfl yl.inj zr zr eR (go ?_)
  obtain⟨i,v1,v2,hi,CT,mH,pN⟩:=hR.file (hR.known _ (List.mem_cons_self ..) _ hx)
  obtain⟨a,cap,rfl,fY⟩:=mH.shape
  refine vl (U:=aU) zr zr (fun w hw=>rZ (i:=4) hw rfl hi) zr zr ?_
  have Hl:A.look k'=some f:=wx iK hx
  have hl:lenOf A k'=(A.now f).length:=by simp[lenOf,Hl]
  have xW:=(hR.small f).1
  have hmk:k'∈A.names.map (·.1):=List.mem_map.2 ⟨_,hx,rfl⟩
  have Q3:(k'::dn).Nodup:=List.nodup_cons.2 ⟨mK,nE⟩
  have zq:∀x∈k'::dn,x∈A.names.map (·.1):=fun x hx=>by
   grind
  have wG:=zi Q3 zq
  rw[List.length_map,List.length_cons]at wG
  refine go ?_
  refine bq 3 (.int .i64 (sumOf A (k'::dn))) rfl (congrArg (Value.int .i64) (by simp only[sumOf,List.map_cons,List.sum_cons,hl];omega)) ?_
  refine aM ih (k'::dn) rfl ⟨Q3,zq⟩ (by show _-(_+1)<_;omega) bS (ao.refl _)
def yi(b:Nat)(es:List (ByteArray × Value)) :
  au Tryz.prog 332 [.map (some b)] [aI Value.string b es] (fun v H=>∃b',v = .map (some b')∧H=[aI Value.string b' es,aI Value.string b es]):=by
 refine au.enter Tryz.func332 ah rfl Tryz.ntmps332 zr zr ?_
 intro G F R hR
 refine go ?_
 refine Ko (U:=aU) zr zr zr zr ?_
 refine DK (kv:=Value.string) (es:=es) 0 rfl Tryz.func415 ah ah ah ah zr zr bh ?_
 intro b'
 refine N4 (U:=aU) zr zr zr zr (go ?_)
 refine aK hR Tryz.func332 rfl _ rfl ⟨b',rfl,rfl⟩ (ao.fin [0,1] 0 zr zr)
def lg{α:Type}(bd:Nat)(D:Dk)(nm:List (ByteArray × Nat))(hm:(D.bm,fk nm)∈D.maps)(g:FuncId)(cap:Array Value)(E:HP)(nm':α→List (ByteArray × Nat))(E':α→HP)(q:α→Prop)(hc:∀b',au Tryz.prog g (.map (some b')::cap.toList) [aI Value.string b' (fk nm),E] (fun _ H=>∃x,q x∧H=[aI Value.string b' (fk (nm' x)),E' x]))(hlen:D.lx.length≤1000000000) :
  au Tryz.prog 223 [ptr bd,.func (.func g) #[] cap] [gn bd D,E]
   (fun _ H=>∃x b' v,q x∧H=[gn bd { D with bm:=b',maps:=(b',fk (nm' x))::D.maps,mz:=v,lx:=D.lx++[b'] },E' x]):=by
 obtain⟨room,bm,mz,nV,oC,off,maps,fy,files,lx,wl⟩:=D
 simp only at hm hlen ⊢
 refine au.ak Tryz.func223 Tryz.ntmps223 fun G F R hE=>?_
 refine al (iz _ _ _ _ _ _ _ _ _ _ _ _ _) (go ?_)
 obtain⟨j,hj⟩:=List.getElem?_of_mem hm
 refine aN (ao.pick [1] rfl) ?_
 refine aN (kG mF hj _) ?_
 refine cg [0] zr zr zr zr (yi bm (fk nm)) rfl jk ?_
 rintro _ _⟨b',rfl,rfl⟩
 refine aN (ao.pick [1,2] rfl) ?_
 refine aN (rk mF hj _) (go ?_)
 refine cg [1,7] zr zr zr zr (hc b') rfl jk ?_
 rintro _ _⟨x,hq,rfl⟩
 refine aN (ao.pick [0,2] rfl) ?_
 refine aN (pC mF (b',fk (nm' x)) maps _) (go ?_)
 refine aL (fun w=>Sat G w ([ae bd (cl [.int .i64 room,.map (some b'),mz,nV,oC,.bool off] 72)])) (cJ 0 9 (.act 9 (.act 10 (.st 11 (.st 12 (.act 13 .nil)))))) rfl ah ah ah (fun w hw=>hw.cu (ao.bM ([2]) rfl)) ?_
 refine go ?_
 refine aj zr zr zr zr zr zr zr zr zr (fun _ w hw=>hw.cu (ao.bM ([3]) rfl)) ?_
 intro b0
 refine aJ (mm:=1) (news:=[.map (some b')]) 6 0 zr zr zr zr zr zr zr zr zr zr zr zr (Vw.ae rfl) rfl (by simp[Value.oneCell']) ai (by show _*8≤_;omega) (fun _=>rfl) (fun _ w hw=>hw.cu (ao.bM ([3]) rfl)) ?_
 intro v'
 have e1:(lx.map fun b=>Value.map (some b))++[.map (some b')]=(lx++[b']).map fun b=>Value.map (some b):=by simp
 have e2:lx.length+1=(lx++[b']).length:=by simp
 rw[e1,e2]
 refine aH 6 rfl ?_
 rintro av cv rfl
 refine go ?_
 refine al (ao.pick [3,1,4,5,6,7,2] rfl) ?_
 refine al (dU bd room b' _ nV oC off _ fy files (lx++[b']) wl _) ?_
 refine bL hE Tryz.func223 rfl _ rfl ⟨x,b',_,hq,rfl⟩ (ao.fin [0,1] 1 zr zr)
def Rel.new(room bm P9:Nat)(v:Value)(h:room≤1073741824):Rel ⟨room,bm,v,.slice none 0 0,.slice none 0 0,false,[(P9,[]),(bm,[])],[],[],[P9],[]⟩ (Ab.new room) where
 room:=rfl
 off:=rfl
 names:=by simp[Ab.new,fk]
 aV:=fK.one (by simp[fk])
 fs:=fK.nil
 writes:=fK.nil
 dN:=lX.nil _ _ _
 ids:=by simp[Ab.new]
 known:=by simp[Ab.new]
 gV:=by simp[Ab.new]
 nodup:=by simp[Ab.new]
 gb:=by simp[Ab.new]
 iw:=by simp[Ab.new]
 fj:=by simp[Ab.new]
 gU:=h
 jZ:=by simp[Ab.new]
 full:=by simp[Ab.new]
def NP(room:Nat)(h1:1≤room)(h2:room≤1073741824) :
  au Tryz.prog 6 [.int .i64 room] [] (fun v H=>∃bd D,Rel D (Ab.new room)∧v = .tuple #[ptr bd,.int .i64 0]∧H=[gn bd D]):=by
 refine au.ak Tryz.func6 Tryz.ntmps6 fun G F R hE=>?_
 repeat'(first|(with_reducible intro jg)|refine er ?_|refine dP zr zr zr zr ?_ ?_|refine aq zr zr ?_ ?_)
 ·omega
 ·omega
 refine eG rfl bh ?_
 intro bm
 refine aN (ao.head (B:=[mF (bm,[])]) (fun h hs=>⟨h,sub.refl h,dG (gA _ _ h hs)⟩)) ?_
 refine eG rfl bh ?_
 intro P9
 refine aN (ao.head (B:=[mF (P9,[])]) (fun h hs=>⟨h,sub.refl h,dG (gA _ _ h hs)⟩)) ?_
 refine aj zr zr zr zr zr zr zr zr zr bh ?_
 intro b0
 refine go ?_
 refine bu zr zr bh ?_
 intro bd
 refine go ?_
 refine al (yU mF _) ?_
 refine al (ao.pick [4,0] rfl) ?_
 refine al (pC mF (bm,[]) [] _) ?_
 refine al (ao.pick [3,0] rfl) ?_
 refine al (pC mF (P9,[]) [(bm,[])] _) ?_
 refine al (ao.pick [2] rfl) ?_
 refine al (ef 68 1 b0 1 1 [.map (some P9)] [] _ rfl (Nat.le_refl _) (by simp)) ?_
 refine al (bg 410 3 none _) ?_
 refine al (xx 5 _) ?_
 refine al (yU gk _) ?_
 refine al (ao.pick [5,4,1,0,3,2] rfl) ?_
 refine al (dU bd room bm (.slice (some ⟨b0,0,none⟩) 1 1) (.slice none 0 0) (.slice none 0 0) false [(P9,[]),(bm,[])] [] [] [P9] [] _) ?_
 refine aK hE Tryz.func6 rfl _ rfl ⟨bd,_,Rel.new room bm P9 _ h2,rfl,rfl⟩ (ao.fin [0] 0 zr zr)
theorem ny{l:List (ByteArray × Nat)}:(Ab.dy l k).isSome=true↔k∈l.map (·.1):=by
 unfold Ab.dy
 grind
def zT(l:List (ByteArray × Nat))(k:ByteArray):se (fk l) k=fk (Ab.ez l k):=by
 unfold se fk Ab.ez
 rw[List.filter_map]
 rfl
theorem zP(l:List (ByteArray × Nat))(k:ByteArray)(f:Nat):jG (fk l) k (ptr f)=fk (Ab.j0 l k f):=by
 have hk:(fk l).map (·.1)=l.map (·.1):=by simp[fk,Function.comp_def]
 unfold jG Ab.j0
 rw[hk]
 by_cases h:(Ab.dy l k).isSome=true
 ·rw[if_pos (ny.1 h),if_pos h]
  simp only[fk,List.map_map]
  apply List.map_congr_left
  grind
 ·rw[if_neg (fun h'=>h (ny.2 h')),if_neg h]
  simp[fk]
def DA(b box:Nat)(l:List (ByteArray × Nat))(k:ByteArray) :
  au Tryz.prog 224 [.map (some b),ptr box] [aI Value.string b (fk l),ae box (cl [.string k] 9)] (fun _ H=>H=[aI Value.string b (fk (Ab.ez l k)),ae box (cl [.string k] 9)]):=by
 refine au.ak Tryz.func224 Tryz.ntmps224 fun G F R hE=>?_
 refine go ?_
 refine sy (U:=aU) 0 yl e8 zr zr zr zr zr zr zr ?_
 rw[zT]
 refine go ?_
 refine bL hE Tryz.func224 rfl _ zr zr (ao.fin [0,1] 0 zr zr)
def pe(b xq xp acK f:Nat)(l:List (ByteArray × Nat))(k k2:ByteArray) :
  au Tryz.prog 340 [.map (some b),ptr xq,ptr xp,ptr acK] [aI Value.string b (fk l),Sep [ae xq (cl [.string k] 9),ae xp (cl [ptr f] 235),ae acK (cl [.string k2] 9)]]
   (fun _ H=>H=[aI Value.string b (fk (Ab.j0 (Ab.ez l k) k2 f)),emp]):=by
 refine au.ak Tryz.func340 Tryz.ntmps340 fun G F R hE=>?_
 refine al (ao.pick [1] rfl) ?_
 refine al (ao.bY _ _) (go ?_)
 refine sy (U:=aU) 3 yl e8 zr zr zr zr zr zr zr ?_
 rw[zT]
 refine go ?_
 refine eB 3 yl e8 zr zr zr zr zr zr zr zr ?_
 rw[zP]
 refine go ?_
 refine al (ao.lj _) ?_
 refine bL hE Tryz.func340 rfl _ zr zr (ao.fin [4,0] 3 zr zr)
def DV(b box:Nat)(l:List (ByteArray × Nat))(k:ByteArray) :
  au Tryz.prog 252 [.map (some b),ptr box] [aI Value.string b (fk l),ae box (cl [.string k] 9)]
   (fun _ H=>∃f,True∧H=[aI Value.string b (fk (Ab.j0 l k f)),gk (f,.slice none 0 0,.slice none 0 0)]):=by
 refine au.ak Tryz.func252 Tryz.ntmps252 fun G F R hE=>?_
 refine go ?_
 refine bu zr zr bh ?_
 intro f
 refine go ?_
 refine eB (v:=ptr f) 1 yl e8 zr zr zr zr zr zr zr zr ?_
 rw[zP]
 refine go ?_
 refine bL hE Tryz.func252 rfl _ rfl ⟨f,trivial,rfl⟩ (ao.fin [1,0] 1 zr zr)
def fresh(l:List Nat):∃n,n ∉ l:=by
  suffices h:∃n,∀x∈l,x<n from let ⟨n,hn⟩:=h;⟨n,fun hx=>Nat.lt_irrefl _ (hn n hx)⟩
  induction l with
  | nil=>exact⟨0,by simp⟩
  | cons a l ih =>
    obtain⟨n,hn⟩:=ih
    exact⟨max n (a+1),fun x hx=>by
      rcases List.mem_cons.1 hx with rfl|h
      · omega
      · have:=hn x h;omega⟩
def FL{x:Nat × Value × Value}(hs:Sat G w (gk x::aS gk files::H)):x.1 ∉ files.map (·.1):=by
 intro hx
 obtain⟨y,hy,he⟩:=List.mem_map.1 hx
 obtain⟨i,hi⟩:=List.getElem?_of_mem hy
 have h1:=hs.cu ((ao.perm (List.Perm.swap _ _ _)).trans ((kG gk hi _).trans (ao.pick [2,0] rfl)))
 unfold gk at h1
 exact h1.ne he.symm
theorem G5(A:Ab)(may:Bool):(A.meet may).2.fs=A.fs∧(A.meet may).2.names=A.names∧(A.meet may).2.aV=A.aV∧(A.meet may).2.writes=A.writes∧(A.meet may).2.room=A.room:=by
 unfold Ab.meet
 grind
def Rel.pV{D:Dk}(h:Rel D A){b':Nat}{nm:List (ByteArray × Nat)}(hk:∀x∈nm,x.2∈A.fs.map (·.1))(hn:(nm.map (·.1)).Nodup)(hl:nm.length≤200) :
  Rel { D with bm:=b',maps:=(b',fk nm)::D.maps,mz:=v,lx:=D.lx++[b'] } (A.pV nm) where
 room:=h.room
 off:=h.off
 names:=by simp[Ab.pV]
 aV:=fK.snoc (h.aV.mono fun b es hb=>List.mem_cons_of_mem _ hb) (by simp)
 fs:=h.fs
 writes:=h.writes
 dN:=h.dN
 ids:=h.ids
 known:=by
  intro st dK
  simp only[Ab.pV,List.mem_cons,List.mem_append,List.not_mem_nil,or_false]at dK
  rcases dK with rfl|dK|rfl
  ·exact hk
  ·exact h.known _ (List.mem_cons_of_mem _ dK)
  ·exact hk
 gV:=h.gV
 nodup:=by
  intro st dK
  simp only[Ab.pV,List.mem_cons,List.mem_append,List.not_mem_nil,or_false]at dK
  rcases dK with rfl|dK|rfl
  ·exact hn
  ·exact h.nodup _ (List.mem_cons_of_mem _ dK)
  ·exact hn
 gb:=h.gb
 iw:=h.iw
 fj:=by
  intro st dK
  simp only[Ab.pV,List.mem_cons,List.mem_append,List.not_mem_nil,or_false]at dK
  rcases dK with rfl|dK|rfl
  ·exact hl
  ·exact h.fj _ (List.mem_cons_of_mem _ dK)
  ·exact hl
 gU:=h.gU
 jZ:=h.jZ
 full:=by simp[Ab.pV]
def Rel.Qb{D:Dk}(h:Rel D A)(hf:f ∉ A.fs.map (·.1)):Rel { D with files:=(f,.slice none 0 0,.slice none 0 0)::D.files } { A with fs:=(f,[],[])::A.fs } where
 room:=h.room
 off:=h.off
 names:=h.names
 aV:=h.aV
 fs:=h.fs.cons ⟨rfl,lX.nil _ _ _,lX.nil _ _ _⟩
 writes:=h.writes
 dN:=h.dN
 ids:=by simp only[List.map_cons,List.nodup_cons];exact⟨hf,h.ids⟩
 known:=fun st dK x hx=>List.mem_cons_of_mem _ (h.known st dK x hx)
 gV:=fun x hx=>List.mem_cons_of_mem _ (h.gV x hx)
 nodup:=h.nodup
 gb:=fun x hx=>by
  rcases List.mem_cons.1 hx with rfl|hx
  ·simp
  ·exact h.gb x hx
 iw:=h.iw
 fj:=h.fj
 gU:=h.gU
 jZ:=h.jZ
 full:=h.full
theorem fK.ids{q:Nat × Value × Value→Nat × List UInt8 × List UInt8→Prop}{l:List (Nat × Value × Value)}{r:List (Nat × List UInt8 × List UInt8)}(h:fK q l r)(hq:∀x y,q x y→x.1=y.1):l.map (·.1)=r.map (·.1):=by
 apply List.ext_getElem?
 intro i
 simp only[List.getElem?_map]
 cases hx:l[i]? with
 | none =>
  have:r[i]?=none:=by rw[List.getElem?_eq_none_iff]at hx ⊢;rw[← h.1];exact hx
  grind
 | some x =>
  obtain⟨y,hy,I8⟩:=h.left hx
  grind
def Rel.acC{D:Dk}(h:Rel D A):D.files.map (·.1)=A.fs.map (·.1):=fK.ids h.fs fun x y I8=>I8.1
def Lq{l:List (ByteArray × Nat)}(h:Ab.dy l k=none):Ab.j0 l k f=l++[(k,f)]:=by simp[Ab.j0,h]
theorem Gu(bd:Nat)(D:Dk)(A:Ab)(hR:Rel D A)(name:ByteArray)(dK:A.aV.length≤1000000000) :
  au Tryz.prog 139 [ptr bd,.string name] [gn bd D]
   (fun v H=>∃f D',f ∉ A.fs.map (·.1)∧Rel D' (A.create (isName name) name f).2∧H=[gn bd D']∧v = .int .i64 (A.create (isName name) name f).1):=by
 refine au.ak Tryz.func139 Tryz.ntmps139 fun G F R hE=>?_
 refine go ?_
 refine bu zr zr bh ?_
 intro box
 refine go ?_
 refine aj zr zr zr zr zr zr zr zr zr bh ?_
 intro b0
 refine go ?_
 refine cg [0] zr zr zr zr (iE _ _ [name] (Vw.ae rfl) (by simp)) rfl jk ?_
 rintro _ _⟨rfl,rfl⟩
 have e1:[name].all isName=isName name:=by simp
 rw[e1]
 refine go ?_
 refine cg [2] zr zr zr zr (wo bd D A hR (isName name)) rfl jk ?_
 rintro _ _⟨D',fA,rfl,rfl⟩
 obtain⟨f0,QZ⟩:=fresh (A.fs.map (·.1))
 have hmf:=G5 A (isName name)
 refine go ?_
 refine dY zr zr ?_ ?_
 ·intro h0
  have od:¬(A.meet (isName name)).1=0:=by have:=of_decide_eq_true h0;omega
  have hf:A.create (isName name) name f0=((A.meet (isName name)).1,(A.meet (isName name)).2):=by simp[Ab.create,od]
  refine go ?_
  refine aK hE Tryz.func139 rfl _ rfl ⟨f0,D',QZ,by rw[hf];exact fA,rfl,by rw[hf];rfl⟩ (ao.fin [0] 2 zr zr)
 ·intro h0
  have od:(A.meet (isName name)).1=0:=by have:=of_decide_eq_false h0;omega
  obtain⟨room,bm,mz,nV,oC,off,maps,fy,files,lx,wl⟩:=D'
  have ME:lx.length≤1000000000:=by have:=fA.aV.1;simp only at this;rw[this,hmf.2.2.1];exact dK
  refine al (iz _ _ _ _ _ _ _ _ _ _ _ _ _) ?_
  refine aL (fun w=>Sat G w ([ae bd (cl [.int .i64 room,.map (some bm),mz,nV,oC,.bool off] 72),aS mF maps,ae box (cl [.string name] 9)])) (cJ 0 11 .nil) rfl ah ah ah (fun w hw=>hw.cu (ao.bM ([0,1,7]) rfl)) ?_
  refine go ?_
  refine pw (U:=aU) rfl yl zr zr zr zr zr zr zr (fun w hw=>iS (i:=1) hw rfl fA.names) ?_
  rw[nJ]
  cases hl:Ab.dy (A.meet (isName name)).2.names name with
  | some fl =>
   have hf:A.create (isName name) name f0=(5,(A.meet (isName name)).2):=by simp[Ab.create,od,Ab.look,hl]
   refine go ?_
   refine al ((ao.pick [0,1,2,3,4,5] rfl).trans (dU _ _ _ _ _ _ _ _ _ _ _ _ _)) ?_
   refine aK hE Tryz.func139 rfl _ rfl ⟨f0,_,QZ,by rw[hf];exact fA,rfl,by rw[hf];rfl⟩ (ao.fin [0] 2 zr zr)
  | none =>
   refine go ?_
   refine Kr (kv:=Value.string) (U:=aU) zr zr zr zr (fun w hw=>iS (i:=1) hw rfl fA.names) ?_
   have AT:(fk (A.meet (isName name)).2.names).length=(A.meet (isName name)).2.names.length:=by simp[fk]
   rw[AT]
   refine go ?_
   refine aq zr zr ?_ ?_
   ·intro M1
    have hf:A.create (isName name) name f0=(3,(A.meet (isName name)).2):=by simp[Ab.create,od,Ab.look,hl];omega
    refine go ?_
    refine al ((ao.pick [0,1,2,3,4,5] rfl).trans (dU _ _ _ _ _ _ _ _ _ _ _ _ _)) ?_
    refine aK hE Tryz.func139 rfl _ rfl ⟨f0,_,QZ,by rw[hf];exact fA,rfl,by rw[hf];rfl⟩ (ao.fin [0] 2 zr zr)
   ·intro M1
    refine go ?_
    refine aN ((ao.pick [0,1,2,3,4,5] rfl).trans (dU _ _ _ _ _ _ _ _ _ _ _ _ _)) ?_
    refine cg [0,2] zr zr zr zr (lg (α:=Nat) bd _ _ fA.names 252 #[ptr box] (ae box (cl [.string name] 9)) (fun f=>Ab.j0 (A.meet (isName name)).2.names name f) (fun f=>gk (f,.slice none 0 0,.slice none 0 0)) (fun _=>True) (fun b'=>DV b' box _ name) ME) rfl jk ?_
    rintro _ _⟨f,b',v,_,rfl⟩
    refine go ?_
    refine al (iz _ _ _ _ _ _ _ _ _ _ _ _ _) ?_
    refine al (ao.pick [6,3] rfl) ?_
    refine pn fun⟨w,hw⟩=>?_
    have hff:f ∉ A.fs.map (·.1):=by have:=FL hw;have h2:=fA.acC;simp only at h2;rw[h2,hmf.1]at this;exact this
    clear hw
    refine al (pC gk (f,.slice none 0 0,.slice none 0 0) files _) ?_
    have Hl:(A.meet (isName name)).2.look name=none:=hl
    have hf:A.create (isName name) name f=(0,{ (A.meet (isName name)).2.pV ((A.meet (isName name)).2.names++[(name,f)])with fs:=(f,[],[])::(A.meet (isName name)).2.fs }):=by
     simp only[Ab.create,od,if_true,Hl,Option.isSome_none,Bool.false_eq_true,if_false]
     grind
    have iW:Ab.j0 (A.meet (isName name)).2.names name f=(A.meet (isName name)).2.names++[(name,f)]:=Lq hl
    have Pq:name ∉ (A.meet (isName name)).2.names.map (·.1):=fun h=>by have:=ny.2 h;rw[hl]at this;cases this
    have PN:=(fA.Qb (f:=f) (by rw[hmf.1];exact hff)).pV (b':=b') (v:=v) (nm:=(A.meet (isName name)).2.names++[(name,f)])
     (fun x hx=>by
      rcases List.mem_append.1 hx with hx|hx
      ·exact List.mem_cons_of_mem _ (fA.known _ (List.mem_cons_self ..) x hx)
      ·simp only[List.mem_singleton]at hx;subst hx;exact List.mem_cons_self ..)
     (by
      rw[List.map_append,List.nodup_append]
      exact⟨fA.nodup _ (List.mem_cons_self ..),by simp,fun a ha b hb=>by simp at hb;subst hb;rintro rfl;exact Pq ha⟩)
     (by rw[List.length_append];simp only[List.length_singleton];omega)
    rw[iW]
    refine al (ao.pick [1,2,3,0,4,5] rfl) ?_
    refine al (dU bd room b' _ nV oC off _ fy _ (lx++[b']) wl _) ?_
    refine aK hE Tryz.func139 rfl _ rfl ⟨f,_,hff,by rw[hf];exact PN,rfl,by rw[hf];rfl⟩ (ao.fin [0] 1 zr zr)
def NG(bd:Nat)(D:Dk)(A:Ab)(hR:Rel D A)(name:ByteArray) :
  au Tryz.prog 123 [ptr bd,.string name] [gn bd D] (fun v H=>H=[gn bd D]∧v = .tuple #[.int .i64 (A.size name).1,.int .i64 (A.size name).2]):=by
 obtain⟨room,bm,mz,nV,oC,off,maps,fy,files,lx,wl⟩:=D
 refine au.ak Tryz.func123 Tryz.ntmps123 fun G F R hE=>?_
 refine al (iz _ _ _ _ _ _ _ _ _ _ _ _ _) (go ?_)
 refine px (U:=aU) rfl yl zr zr zr zr zr zr zr (fun w hw=>iS (i:=1) hw rfl hR.names) ?_
 rw[nJ]
 cases hl:Ab.dy A.names name with
 | none =>
  have hs:A.size name=(0,4):=by simp[Ab.size,Ab.look,hl]
  rw[hs]at hE
  refine go ?_
  refine al ((ao.pick [0,1,2,3,4,5] rfl).trans (dU _ _ _ _ _ _ _ _ _ _ _ _ _)) ?_
  refine aK hE Tryz.func123 rfl _ rfl ⟨rfl,rfl⟩ (ao.fin [0] 0 zr zr)
 | some fl =>
  have hs:A.size name=((A.now fl).length,0):=by simp[Ab.size,Ab.look,hl]
  rw[hs]at hE
  obtain⟨i,v1,v2,hi,CT,mH,pN⟩:=hR.file (f:=fl) (hR.known _ (List.mem_cons_self ..) _ (oI hl))
  obtain⟨a,cap,rfl,fY⟩:=mH.shape
  refine go ?_
  refine vl (U:=aU) zr zr (fun w hw=>rZ (i:=3) hw rfl hi) zr zr ?_
  refine go ?_
  refine al ((ao.pick [0,1,2,3,4,5] rfl).trans (dU _ _ _ _ _ _ _ _ _ _ _ _ _)) ?_
  refine aK hE Tryz.func123 rfl _ rfl ⟨rfl,rfl⟩ (ao.fin [0] 0 zr zr)
def NJ(bd:Nat)(D:Dk)(A:Ab)(hR:Rel D A)(name:ByteArray)(at_ n:Int) :
  au Tryz.prog 124 [ptr bd,.string name,.int .i64 at_,.int .i64 n] [gn bd D]
   (fun v H=>∃r,H=[aB 5 1 r (A.read name at_ n).1.length (bV (A.read name at_ n).1),gn bd D]∧v = .tuple #[r,.int .i64 (A.read name at_ n).2]):=by
 obtain⟨room,bm,mz,nV,oC,off,maps,fy,files,lx,wl⟩:=D
 have jR:=hR.off
 simp only at jR
 refine au.ak Tryz.func124 Tryz.ntmps124 fun G F R hE=>?_
 refine al (iz _ _ _ _ _ _ _ _ _ _ _ _ _) ?_
 cases off with
 | true =>
  have hs:A.read name at_ n=([],7):=by simp[Ab.read,← jR]
  rw[hs]at hE
  refine go ?_
  refine al ((ao.pick [0,1,2,3,4,5] rfl).trans (dU _ _ _ _ _ _ _ _ _ _ _ _ _)) ?_
  refine al (bg 5 1 none _) ?_
  refine aK hE Tryz.func124 rfl _ rfl ⟨_,rfl,rfl⟩ (ao.fin [0,1] 0 zr zr)
 | false =>
  refine go ?_
  refine px (U:=aU) rfl yl zr zr zr zr zr zr zr (fun w hw=>iS (i:=1) hw rfl hR.names) ?_
  rw[nJ]
  cases hl:Ab.dy A.names name with
  | none =>
   have hs:A.read name at_ n=([],4):=by simp[Ab.read,Ab.look,hl,← jR]
   rw[hs]at hE
   refine go ?_
   refine al ((ao.pick [0,1,2,3,4,5] rfl).trans (dU _ _ _ _ _ _ _ _ _ _ _ _ _)) ?_
   refine al (bg 5 1 none _) ?_
   refine aK hE Tryz.func124 rfl _ rfl ⟨_,rfl,rfl⟩ (ao.fin [0,1] 0 zr zr)
  | some fl =>
   have hs:A.read name at_ n=if at_<0∨n<0∨((A.now fl).length:Int)<at_∨((A.now fl).length:Int)-at_<n then([],1)else(((A.now fl).drop at_.toNat).take n.toNat,0):=by simp[Ab.read,Ab.look,hl,← jR]
   obtain⟨i,v1,v2,hi,CT,mH,pN⟩:=hR.file (f:=fl) (hR.known _ (List.mem_cons_self ..) _ (oI hl))
   obtain⟨a,cap,rfl,fY⟩:=mH.shape
   have xW:=(hR.small fl).1
   have lB:∀(h:at_<0∨n<0∨((A.now fl).length:Int)<at_∨((A.now fl).length:Int)-at_<n),A.read name at_ n=([],1):=fun h=>by rw[hs,if_pos h]
   repeat'(first|(with_reducible intro jg)|refine er ?_|refine dP zr zr zr zr ?_ ?_|refine aq zr zr ?_ ?_|refine vl (U:=aU) zr zr (fun w hw=>rZ (i:=3) hw rfl hi) zr zr ?_)
   any_goals (
    have zq:=lB ai
    rw[zq]at hE
    refine al ((ao.pick [0,1,2,3,4,5] rfl).trans (dU _ _ _ _ _ _ _ _ _ _ _ _ _)) ?_
    refine al (bg 5 1 none _) ?_
    refine aK hE Tryz.func124 rfl _ rfl ⟨_,rfl,rfl⟩ (ao.fin [0,1] 0 zr zr))
   refine bw zr zr zr zr zr zr zr ai ai (.inr ai) ?_
   have hr:A.read name at_ n=(((A.now fl).drop at_.toNat).take n.toNat,0):=by rw[hs,if_neg ai]
   have lA:=mH.cut at_.toNat n.toNat ai
   have hlen:(((A.now fl).drop at_.toNat).take n.toNat).length=n.toNat:=by rw[List.length_take,List.length_drop];omega
   refine aG 61 (.slice (sliceAt a cap at_.toNat 1) (((A.now fl).drop at_.toNat).take n.toNat).length (cap-at_.toNat)) rfl (by rw[hlen];congr 1;omega) ?_
   have Q4:lX fy (.slice (sliceAt a cap at_.toNat 1) (((A.now fl).drop at_.toNat).take n.toNat).length (cap-at_.toNat)) (((A.now fl).drop at_.toNat).take n.toNat):=by rw[hlen];exact lA
   rw[hr]at hE
   clear lA hr hs lB
   generalize hbs:((A.now fl).drop at_.toNat).take n.toNat=bs at hE Q4 hlen ⊢
   refine go ?_
   refine cg [2] zr zr zr zr (jV _ _ bs (Q4.view _) ai) rfl jk ?_
   rintro r _ rfl
   refine go ?_
   refine al (ao.pick [2,3,1,4,5,6] rfl) ?_
   refine al (dU bd room bm mz nV oC false maps fy files lx wl _) ?_
   refine aK hE Tryz.func124 rfl _ rfl ⟨r,rfl,rfl⟩ (ao.fin [1,0] 0 zr zr)
def iy(name:ByteArray)(at_:Int)(b:List UInt8):Bool:=isName name && decide (0≤at_) && decide (at_≤1048576) && decide ((b.length:Int)≤1048576-at_)
def wY(A:Ab)(name:ByteArray):A.find name false=(1,none,A):=by simp[Ab.find,Ab.meet]
def yK(A:Ab)(name:ByteArray)(at_:Nat)(b:List UInt8):A.write false name at_ b=(1,A):=by simp[Ab.write,wY]
theorem Ov{fs:List (Nat × List UInt8 × List UInt8)}(hn:(fs.map (·.1)).Nodup){x:List UInt8 × List UInt8}(hi:fs[i]?=some (f,x))(n:List UInt8):Ab.D8 fs f n=fs.set i (f,n,x.2):=by
 induction fs generalizing i with
 | nil=>simp at hi
 | cons y l ih =>
  simp only[List.map_cons,List.nodup_cons]at hn
  cases i with
  | zero =>
   simp at hi
   subst hi
   simp only[Ab.D8,List.map_cons,if_true,List.set_cons_zero,List.cons.injEq,true_and]
   rw[List.map_congr_left (g:=id) (fun z hz=>?_),List.map_id]
   grind
  | succ i =>
   simp at hi
   have fu:y.1≠f:=fun e=>hn.1 (List.mem_map.2 ⟨_,List.mem_of_getElem? hi,e.symm⟩)
   have:=ih hn.2 hi
   simp only[Ab.D8]at this
   simp only[Ab.D8,List.map_cons,fu,if_false,List.set_cons_succ,this]
theorem q5(fs:List (Nat × List UInt8 × List UInt8))(f:Nat)(n:List UInt8):(Ab.D8 fs f n).map (·.1)=fs.map (·.1):=by
 simp only[Ab.D8,List.map_map]
 apply List.map_congr_left
 grind
theorem Rel.wrote{D:Dk}(h:Rel D A){at_:Nat}{v3 v4:Value}{n b:List UInt8}{zR:fJ}{w:Value}(hi:D.files[i]?=some (f,v1,v2))(ha:A.fs[i]?=some (f,A.now f,A.sure f))(dj:∀x∈D.fy,x∈zR)(hn:lX zR v3 n)(hb:lX zR v4 b)(MQ:n.length≤1048576)(uC:at_+b.length≤1048576) :
  Rel { D with files:=D.files.set i (f,v3,v2),fy:=zR,nV:=w,wl:=D.wl++[(f,at_,v4)] } { A with fs:=Ab.D8 A.fs f n,writes:=A.writes++[(f,at_,b)] } where
 room:=h.room
 off:=h.off
 names:=h.names
 aV:=h.aV
 fs:=by
  rw[Ov h.ids ha]
  have h2:=h.fs.2 i _ _ hi ha
  exact fK.set (h.fs.mono fun x y I8=>⟨I8.1,I8.2.1.mono dj,I8.2.2.mono dj⟩) i ⟨rfl,hn,h2.2.2.mono dj⟩
 writes:=fK.snoc (h.writes.mono fun x y I8=>⟨I8.1,I8.2.1,I8.2.2.mono dj⟩) ⟨rfl,rfl,hb⟩
 dN:=h.dN.mono dj
 ids:=by simp only[q5];exact h.ids
 known:=by simp only[q5];exact h.known
 gV:=by
  simp only[q5]
  intro x hx
  rcases List.mem_append.1 hx with hx|hx
  ·exact h.gV x hx
  grind
 nodup:=h.nodup
 gb:=by
  intro x hx
  simp only[Ab.D8,List.mem_map]at hx
  obtain⟨y,hy,rfl⟩:=hx
  have:=h.gb y hy
  grind
 iw:=by
  intro x hx
  rcases List.mem_append.1 hx with hx|hx
  ·exact h.iw x hx
  grind
 fj:=h.fj
 gU:=h.gU
 jZ:=h.jZ
 full:=h.full
theorem Eg(old:List UInt8)(at_:Nat)(b:List UInt8):(eU old at_ b).length=max old.length (at_+b.length):=by
 grind [eU]
theorem mN(A:Ab)(name:ByteArray)(ok:Bool):(A.find name ok).2.2.fs=A.fs∧(A.find name ok).2.2.names=A.names∧(A.find name ok).2.2.aV=A.aV∧(A.find name ok).2.2.writes=A.writes∧(A.find name ok).2.2.room=A.room:=by
 have:=G5 A ok
 unfold Ab.find
 grind
theorem Rel.GF{D:Dk}(h:Rel D A):A.used≤209715200:=by
 rw[← vF (h.nodup _ (List.mem_cons_self ..))]
 have:=BT (fun f=>(h.small f).1) (A.names.map (·.1))
 have h2:=h.fj _ (List.mem_cons_self ..)
 grind
theorem JW(e:TypeId)(v:Value)(bs:List UInt8)(M:fJ):∀h,star (aB e 1 v bs.length (bV bs)) (a7 e M) h→∃M',(lX M' v bs∧∀x∈M,x∈M')∧Sep [a7 e M'] h:=fun h hs=>by
 grind [Nv,dG]
theorem lf{name:ByteArray}{ok:Bool}(h:(A.find name ok).1=0):ok=true∧∃fl,(A.find name ok).2.1=some fl∧(name,fl)∈(A.find name ok).2.2.names:=by
 unfold Ab.find at h ⊢
 split
 ·rename_i h0
  rw[if_pos h0]at h
  cases hl:(A.meet ok).2.look name with
  | none=>rw[hl]at h;cases h
  | some f =>
   refine⟨?_,f,rfl,oI hl⟩
   cases ok with
   | true=>rfl
   | false=>simp[Ab.meet]at h0
 grind
def J5(bd:Nat)(D:Dk)(A:Ab)(hR:Rel D A)(name:ByteArray)(at_:Int)(X:HP)(bv:Value)(b:List UInt8)(hv:Vw X bv b.length (bV b))(ir:A.writes.length≤1000000000)(uC:b.length≤1000000000)(hat : -9223372036854775808≤at_∧at_≤9223372036854775807) :
  au Tryz.prog 172 [ptr bd,.string name,.int .i64 at_,bv] [gn bd D,X]
   (fun v H=>∃D',Rel D' (A.write (iy name at_ b) name at_.toNat b).2∧H=[gn bd D',X]∧v = .int .i64 (A.write (iy name at_ b) name at_.toNat b).1):=by
 obtain⟨a0,c0,rfl⟩:=hv.shape
 refine au.ak Tryz.func172 Tryz.ntmps172 fun G F R hE=>?_
 refine go ?_
 refine aj zr zr zr zr zr zr zr zr zr bh ?_
 intro b0
 refine go ?_
 refine cg [0] zr zr zr zr (iE _ _ [name] (Vw.ae rfl) (by simp)) rfl jk ?_
 rintro _ _⟨rfl,rfl⟩
 have e1:[name].all isName=isName name:=by simp
 rw[e1]
 cases tA:isName name with
 | false =>
  have hm:iy name at_ b=false:=by simp[iy,tA]
  rw[hm,yK]at hE
  refine go ?_
  refine cg [1] zr zr zr zr (i' bd D A hR name false) rfl jk ?_
  rw[wY]
  rintro _ _⟨D',fA,rfl,rfl⟩
  refine go ?_
  refine aK hE Tryz.func172 rfl _ rfl ⟨D',fA,rfl,rfl⟩ (ao.fin [0,2] 1 zr zr)
 | true =>
  repeat'(first|(with_reducible intro jg)|refine er ?_|refine dP zr zr zr zr ?_ ?_|fail)
  any_goals (
   have hm:iy name at_ b=false:=by simp[iy,tA, *]
   rw[hm,yK]at hE
   refine cg [1] zr zr zr zr (i' bd D A hR name false) rfl jk ?_
   rw[wY]
   rintro _ _⟨D',fA,rfl,rfl⟩
   refine go ?_
   refine aK hE Tryz.func172 rfl _ rfl ⟨D',fA,rfl,rfl⟩ (ao.fin [0,2] 1 zr zr))
  rename_i h2
  obtain⟨at_,rfl⟩:=Int.eq_ofNat_of_zero_le h2
  simp only[Int.toNat_natCast]at hE
  have hm:iy name at_ b=decide ((b.length:Int)≤1048576-at_):=by simp[iy,tA, *]
  refine aG 31 (.bool (iy name at_ b)) rfl (congrArg Value.bool hm.symm) ?_
  refine cg [1] zr zr zr zr (i' bd D A hR name (iy name at_ b)) rfl jk ?_
  generalize nD:iy name at_ b=ok at hE hm ⊢
  rintro _ _⟨D',fA,rfl,rfl⟩
  refine go ?_
  refine dY zr zr ?_ ?_
  ·intro h0
   have od:¬(A.find name ok).1=0:=by have:=of_decide_eq_true h0;omega
   have hw:A.write ok name at_ b=((A.find name ok).1,(A.find name ok).2.2):=by simp[Ab.write,od]
   rw[hw]at hE
   refine go ?_
   refine aK hE Tryz.func172 rfl _ rfl ⟨D',fA,rfl,rfl⟩ (ao.fin [0,2] 1 zr zr)
  ·intro h0
   have od:(A.find name ok).1=0:=by have:=of_decide_eq_false h0;omega
   obtain⟨Y6,fl,sM,eR⟩:=lf od
   rw[Y6]at hm
   have hlen:=of_decide_eq_true hm.symm
   have hw:A.write ok name at_ b=if(A.find name ok).2.2.room<(A.find name ok).2.2.used+(at_+b.length-((A.find name ok).2.2.now fl).length)then(3,(A.find name ok).2.2)
    else(0,{ (A.find name ok).2.2 with fs:=Ab.D8 (A.find name ok).2.2.fs fl (eU ((A.find name ok).2.2.now fl) at_ b),writes:=(A.find name ok).2.2.writes++[(fl,at_,b)] }):=by simp[Ab.write,od,sM]
   rw[sM]
   have adm:(A.find name ok).2.2.writes.length≤1000000000:=by rw[(mN A name ok).2.2.2.1];exact ir
   generalize (A.find name ok).2.2=A1 at *
   obtain⟨room,bm,mz,nV,oC,off,maps,fy,files,lx,wl⟩:=D'
   obtain⟨i,v1,v2,hi,CT,mH,pN⟩:=fA.file (f:=fl) (fA.known _ (List.mem_cons_self ..) _ eR)
   obtain⟨a,cap,rfl,fY⟩:=mH.shape
   have xW:=(fA.small fl).1
   have nR:=fA.room
   have MH:=fA.gU
   simp only at nR
   refine al (iz _ _ _ _ _ _ _ _ _ _ _ _ _) ?_
   refine aL (fun w=>Sat G w ([ae bd (cl [.int .i64 room,.map (some bm),mz,nV,oC,.bool off] 72),aS gk files])) (.st 0 (cJ 2 11 (cJ 14 4 (.act 1 (.st 13 (.st 18 .nil)))))) rfl ah ah ah (fun w hw=>hw.cu (ao.bM ([0,3]) rfl)) ?_
   refine go ?_
   refine kQ zr zr (fun w hw=>rZ (i:=1) hw rfl hi) zr zr ?_
   refine go ?_
   refine aN ((ao.pick [0,1,2,3,4,5] rfl).trans (dU _ _ _ _ _ _ _ _ _ _ _ _ _)) ?_
   have hul:=fA.GF
   refine cg [0] rfl rfl rfl rfl (NB bd _ A1 fA) rfl (fun _ _ w hp hw=>by obtain⟨rfl,_⟩:=hp;exact hw.cu ((iz _ _ _ _ _ _ _ _ _ _ _ _ _).trans (ao.bM [0,3] rfl))) ?_
   rintro _ _⟨rfl,rfl⟩
   refine go ?_
   refine aq zr zr ?_ ?_
   ·intro M1
    rw[if_pos ai]at hw
    rw[hw]at hE
    refine go ?_
    refine aK hE Tryz.func172 rfl _ rfl ⟨_,fA,rfl,rfl⟩ (ao.fin [0,2] 1 zr zr)
   ·intro M1
    rw[if_neg ai]at hw
    rw[hw]at hE
    refine go ?_
    refine aN (iz _ _ _ _ _ _ _ _ _ _ _ _ _) (go ?_)
    refine aN (ao.pick [3] rfl) ?_
    refine aN (kG gk hi _) (go ?_)
    refine aN (ao.pick [4,8] rfl) ?_
    refine aN (ao.join _ _ _) ?_
    refine cg [0] zr zr zr zr (Ia (star (a7 5 fy) X) _ _ (A1.now fl) b at_ (mH.view _).left hv.right ai) rfl jk ?_
    rintro _ _⟨bl,A7,rfl,acv,rfl⟩
    refine aN (ao.pick [1] rfl) ?_
    refine aN (ao.part _ _ _) ?_
    refine aN (ao.pick [2,0] rfl) ?_
    refine aN (Nw 5 bl _ fy _) (go ?_)
    refine al (ao.pick [2,3] rfl) ?_
    refine al (yT gk (y:=(fl,.slice (some ⟨bl,0,none⟩) (eU (A1.now fl) at_ b).length A7,v2)) hi _) ?_
    refine aL (fun w=>Sat G w ([ae bd (cl [.int .i64 room,.map (some bm),mz,nV,oC,.bool off] 72)])) (cJ 0 8 (.act 8 (.st 9 (.act 10 (.act 11 (.st 12 (.st 13 (.act 14 .nil)))))))) rfl ah ah ah (fun w hw=>hw.cu (ao.bM ([3]) rfl)) ?_
    refine go ?_
    refine cg [2] rfl rfl rfl rfl (jV X _ b hv uC) rfl (fun _ _ w hp hw=>by subst hp;exact hw.cu (ao.bM [4] rfl)) ?_
    rintro r _ rfl
    refine aH 0 rfl ?_
    rintro ar cr rfl
    refine go ?_
    refine aj zr zr zr zr zr zr zr zr zr (fun _ w hw=>hw.cu (ao.bM ([5]) rfl)) ?_
    intro b1
    refine aJ (mm:=1) (news:=[ptr fl,.int .i64 at_,.slice ar b.length cr]) 8 0 zr zr zr zr zr zr zr zr zr zr zr zr (Vw.ae rfl) rfl (by simp[Value.oneCell',ptr]) (by have:=fA.writes.1;simp only at this;omega) (by have:=fA.writes.1;simp only at this;show _*40≤_;omega) (fun _=>rfl) (fun _ w hw=>hw.cu (ao.bM ([5]) rfl)) ?_
    intro v'
    have e2:eJ wl++[ptr fl,.int .i64 at_,.slice ar b.length cr]=eJ (wl++[(fl,at_,.slice ar b.length cr)]):=by simp[eJ]
    have e3:wl.length+1=(wl++[(fl,at_,Value.slice ar b.length cr)]).length:=by simp
    rw[e2,e3]
    refine aH 8 rfl ?_
    rintro av cv rfl
    refine go ?_
    refine aY ?_;refine bN 5 e8 zr zr zr zr zr zr zr zr zr ?_
    refine go ?_
    refine al (ao.pick [1,4] rfl) ?_
    refine al (ao.join _ _ _) ?_
    refine cX (JW 5 _ b _) ?_
    rintro zR⟨Zv,dj⟩
    have PN:=fA.wrote (w := .slice av (wl++[(fl,at_,Value.slice ar b.length cr)]).length cv) hi CT (fun x hx=>dj x (List.mem_cons_of_mem _ hx)) ((lX.row (cap:=A7) acv).mono dj) Zv (by rw[Eg];omega) (by omega:at_+b.length≤1048576)
    refine al (ao.pick [4,5,0,3,6,7] rfl) ?_
    refine al (dU bd room bm mz _ oC off maps zR _ lx _ _) ?_
    refine aK hE Tryz.func172 rfl _ rfl ⟨_,PN,rfl,rfl⟩ (ao.fin [0,2] 2 zr zr)
def C4{l:List (ByteArray × Nat)}{x:ByteArray × Nat}(h:x∈Ab.ez l k):x∈l∧x.1≠k:=by
 simpa[Ab.ez]using h
def Ni(l:List (ByteArray × Nat))(k:ByteArray):(Ab.ez l k).length≤l.length:=List.length_filter_le _ _
def w8{l:List (ByteArray × Nat)}(h:(l.map (·.1)).Nodup)(k:ByteArray):((Ab.ez l k).map (·.1)).Nodup:=(List.filter_sublist.map _).nodup h
theorem P4{l:List (ByteArray × Nat)}(h:(k,f)∈l):(Ab.ez l k).length+1≤l.length:=by
 have:(Ab.ez l k).length<l.length:=by
  unfold Ab.ez
  rw[List.length_filter_lt_length_iff_exists]
  grind
 omega
theorem Ls(l:List (ByteArray × Nat))(k:ByteArray)(f:Nat):(Ab.j0 l k f).length≤l.length+1:=by
 unfold Ab.j0
 grind
theorem Lr{l:List (ByteArray × Nat)}{x:ByteArray × Nat}(h:x∈Ab.j0 l k f):x=(k,f)∨x∈l:=by
 unfold Ab.j0 at h
 grind
theorem Ev{l:List (ByteArray × Nat)}(h:(l.map (·.1)).Nodup)(k:ByteArray)(f:Nat):((Ab.j0 l k f).map (·.1)).Nodup:=by
 unfold Ab.j0
 split
 ·grind
 ·rename_i hk
  rw[List.map_append,List.nodup_append]
  exact⟨h,by simp,fun a ha b hb=>by simp at hb;subst hb;rintro rfl;exact hk (ny.2 ha)⟩
theorem Gd(bd:Nat)(D:Dk)(A:Ab)(hR:Rel D A)(name:ByteArray)(dK:A.aV.length≤1000000000) :
  au Tryz.prog 115 [ptr bd,.string name] [gn bd D]
   (fun v H=>∃D',Rel D' (A.remove (isName name) name).2∧H=[gn bd D']∧v = .int .i64 (A.remove (isName name) name).1):=by
 refine au.ak Tryz.func115 Tryz.ntmps115 fun G F R hE=>?_
 refine go ?_
 refine bu zr zr bh ?_
 intro box
 refine go ?_
 refine aL (fun w=>Sat G w ([ae box (cl [.string name] 9)])) (cJ 0 3 (.act 3 (.act 4 (.act 5 (cJ 6 5 .nil))))) rfl ah ah ah (fun w hw=>hw.cu (ao.bM ([0]) rfl)) ?_
 refine go ?_
 refine aj zr zr zr zr zr zr zr zr zr (fun _ w hw=>hw.cu (ao.bM ([1]) rfl)) ?_
 intro b0
 refine cg [0] rfl rfl rfl rfl (iE _ _ [name] (Vw.ae rfl) (by simp)) rfl (fun _ _ w hp hw=>by obtain⟨_,rfl⟩:=hp;exact hw.cu (ao.bM [1] rfl)) ?_
 rintro _ _⟨rfl,rfl⟩
 have e1:[name].all isName=isName name:=by simp
 rw[e1]
 refine cg [2] rfl rfl rfl rfl (i' bd D A hR name (isName name)) rfl (fun _ _ w hp hw=>by obtain⟨_,_,rfl,_⟩:=hp;exact hw.cu (ao.bM [2] rfl)) ?_
 generalize nD:isName name=ok at hE ⊢
 rintro _ _⟨D',fA,rfl,rfl⟩
 refine go ?_
 refine dY zr zr ?_ ?_
 ·intro h0
  have od:¬(A.find name ok).1=0:=by have:=of_decide_eq_true h0;omega
  have hw:A.remove ok name=((A.find name ok).1,(A.find name ok).2.2):=by
   unfold Ab.remove
   grind
  rw[hw]at hE
  refine go ?_
  refine aK hE Tryz.func115 rfl _ rfl ⟨D',fA,rfl,rfl⟩ (ao.fin [0] 2 zr zr)
 ·intro h0
  have od:(A.find name ok).1=0:=by have:=of_decide_eq_false h0;omega
  obtain⟨Y6,fl,sM,eR⟩:=lf od
  have hw:A.remove ok name=(0,(A.find name ok).2.2.pV (Ab.ez (A.find name ok).2.2.names name)):=by
   unfold Ab.remove
   grind
  have ME:(A.find name ok).2.2.aV.length≤1000000000:=by rw[(mN A name ok).2.2.1];exact dK
  rw[hw]at hE
  generalize (A.find name ok).2.2=A1 at *
  have MD:D'.lx.length≤1000000000:=by rw[fA.aV.1];exact ME
  refine go ?_
  refine cg [0,2] zr zr zr zr (lg (α:=Unit) bd D' A1.names fA.names 224 #[ptr box] (ae box (cl [.string name] 9)) (fun _=>Ab.ez A1.names name) (fun _=>ae box (cl [.string name] 9)) (fun _=>True) (fun b'=>au.post (DA b' box A1.names name) (fun v H h=>⟨(),trivial,h⟩)) MD) rfl jk ?_
  rintro _ _⟨_,b',v,_,rfl⟩
  have PN:=fA.pV (b':=b') (v:=v) (nm:=Ab.ez A1.names name) (fun x hx=>fA.known _ (List.mem_cons_self ..) x (C4 hx).1) (w8 (fA.nodup _ (List.mem_cons_self ..)) name) (Nat.le_trans (Ni _ _) (fA.fj _ (List.mem_cons_self ..)))
  refine go ?_
  refine aK hE Tryz.func115 rfl _ rfl ⟨_,PN,rfl,rfl⟩ (ao.fin [0] 2 zr zr)
abbrev DD:=Nat × Nat × Value
def zm(x:DD):List Value:=[ptr x.1,.int .i64 x.2.1,x.2.2]
def gI(l:List DD):eJ l=l.flatMap zm:=rfl
theorem fb(x:DD):(zm x).length=3:=rfl
theorem xS(A X:HP)(v:Value)(l:List DD)(hv:Vw A v l.length (eJ l))(hlen:l.length≤1000000000)(g:FuncId)(cap:List Value)(p:DD→Bool)(hf:∀x∈l,au Tryz.prog g (.agg #[ptr x.1,.int .i64 x.2.1,x.2.2]::cap) [X] (fun v H=>v = .bool (p x)∧H=[X])) :
  au Tryz.prog 419 [v,.func (.func g) #[] cap.toArray] [A,X] (fun r H=>r = .int .i64 (gM p l)∧H=[A,X]):=by
 obtain⟨a,c0,rfl⟩:=hv.shape
 refine au.enter Tryz.func419 ah rfl Tryz.ntmps419 zr zr ?_
 intro G F R hR
 refine go ?_
 refine bj (fun i:Nat=>i≤l.length∧∀y∈l.take i,p y=false) (fun i=>l.length-i) (fun i=>[(0,.slice a l.length c0),(1,.func (.func g) #[] cap.toArray),(7,.int .i64 l.length),(8,.int .i64 i)]) (fun _=>[A,X]++F) 0 ⟨by simp,by simp⟩ rfl bS (ao.refl _) ?_
 rintro i⟨hi,hb⟩ ih
 refine go ?_
 refine aq zr zr ?_ ?_
 ·intro cL
  refine go ?_
  have dA:i<l.length:=by omega
  have hx:l[i]?=some l[i]:=by simp[dA]
  generalize YN:l[i]=x at hx
  obtain⟨b,o,eY,dL⟩:=hv.some (by rw[← List.length_pos_iff,gI,bT fb];omega)
  simp only[Value.slice.injEq]at dL
  obtain⟨rfl,_,rfl⟩:=dL
  refine bW i 3 zr zr zr zr zr zr zr zr dA ?_
  refine cd (U:=aU) (es:=zm x) 0 (i*3) zr zr zr hv rfl (fun j v hj=>?_) zr zr zr ?_
  ·have BE:j<3:=by
    grind [fb]
   rw[gI,cM fb hx j BE];exact hj
  refine cg [1] zr zr zr zr (hf x (List.mem_of_getElem? hx)) rfl jk ?_
  rintro _ _⟨rfl,rfl⟩
  refine go ?_
  refine dY zr zr ?_ ?_
  ·intro hp
   refine go ?_
   refine aK hR Tryz.func419 rfl _ rfl ⟨by rw[gL hx hp hb];rfl,rfl⟩ (ao.fin [1,0] 0 zr zr)
  ·intro hp
   refine go ?_
   refine aM ih (i+1) rfl ⟨ai,kC hb hx hp⟩ ai bS (ao.pick [1,0] rfl)
 ·intro ep
  refine go ?_
  have:i=l.length:=by omega
  subst this
  refine aK hR Tryz.func419 rfl _ rfl ⟨by rw[iF (fun x hx=>hb x (by simpa using hx))];rfl,rfl⟩ (ao.fin [0,1] 0 zr zr)
def J8(c5 f g at_:Nat)(bv:Value)(files:List (Nat × Value × Value))(hf:f∈files.map (·.1))(hg:g∈files.map (·.1))(eM:bv.oneCell'=true) :
  au Tryz.prog 339 [.agg #[ptr g,.int .i64 at_,bv],ptr c5] [star (ae c5 (cl [ptr f] 235)) (aS gk files)] (fun v H=>v = .bool (decide (g=f))∧H=[star (ae c5 (cl [ptr f] 235)) (aS gk files)]):=by
 have row:∀ {G:ct} {w:World} {H:List HP} {i y:Nat},Sat G w H→bZ H i=some (aS gk files)→y∈files.map (·.1)→Row w y:=by
  intro G w H i y hs hi hy
  obtain⟨⟨y',v1,v2⟩,hm,rfl⟩:=List.mem_map.1 hy
  obtain⟨j,hj⟩:=List.getElem?_of_mem hm
  exact⟨_,_,wZ hs hi hj⟩
 refine au.ak Tryz.func339 Tryz.ntmps339 fun G F R hE=>?_
 refine al (ao.part _ _ _) (go ?_)
 refine bu zr zr bh ?_
 intro bx
 refine go ?_
 refine Qn (U:=aU) zr zr zr zr zr zr zr (fun w hw=>row (i:=2) hw rfl hg) (fun w hw=>row (i:=2) hw rfl hf) ?_
 refine go ?_
 refine al (ao.pick [1,2] rfl) ?_
 refine al (ao.join _ _ _) ?_
 refine aK hE Tryz.func339 rfl _ rfl ⟨congrArg Value.bool (by simp),rfl⟩ (ao.fin [0] 1 zr zr)
theorem uT(v:Value)(l:List DD)(X:HP)(g:FuncId)(cap:List Value)(p:DD→Bool)(hlen:l.length≤1000000000)(dL:∀x∈l,∃a n c,x.2.2 = .slice a n c)(hf:∀x∈l,au Tryz.prog g (.agg #[ptr x.1,.int .i64 x.2.1,x.2.2]::cap) [X] (fun v H=>v = .bool (p x)∧H=[X])) :
  au Tryz.prog 338 [v,.func (.func g) #[] cap.toArray] [aB 410 3 v l.length (eJ l),X]
   (fun r H=>H=[aB 410 3 r (l.filter fun x => !p x).length (eJ (l.filter fun x => !p x)),X]):=by
 refine au.ak Tryz.func338 Tryz.ntmps338 fun G F R hE=>?_
 refine db 0 rfl ?_
 rintro a0 c rfl
 refine go ?_
 refine dH 0 rfl ?_
 intro hv
 refine cg [0,1] zr zr zr zr (xS _ X _ l hv hlen g cap p hf) rfl jk ?_
 rintro _ _⟨rfl,rfl⟩
 refine go ?_
 refine aq zr zr ?_ ?_
 ·intro h0
  have lC:l.any p=false:=jQ.1 ai
  have sM:(l.filter fun x => !p x)=l:=List.filter_eq_self.2 fun x hx=>by
   grind
  rw[sM]at hE
  refine go ?_
  refine aK hE Tryz.func338 rfl _ zr zr (ao.fin [0,1] 0 zr zr)
 ·intro h0
  obtain⟨i0,x0,Ea,YQ,Fs,zz⟩:=qB h0
  have acg:i0<l.length:=by
   grind
  rw[Ea]
  refine go ?_
  refine qO (fun a mU hn _=>by omega) ?_
  rintro b o c' pre junk sI j8 hnc fY mX
  simp only[Value.slice.injEq,true_and]at sI
  obtain⟨rfl,rfl⟩:=sI
  have h1:l.take (i0+1)=l.take i0++[x0]:=by rw[List.take_add_one,YQ];rfl
  have Ec:(l.take i0).filter (fun x => !p x)=l.take i0:=List.filter_eq_self.2 fun x hx=>by simp[zz x hx]
  refine bj (fun s:Nat × Nat × List DD=>s.1<s.2.1∧s.2.1≤l.length∧s.2.2.length=l.length∧s.2.2.take s.1=(l.take s.2.1).filter (fun x => !p x)∧s.2.2.drop s.2.1=l.drop s.2.1) (fun s=>l.length-s.2.1)
   (fun s=>[(0,.slice (some ⟨b,o,none⟩) l.length c),(1,.func (.func g) #[] cap.toArray),(5,.int .i64 s.1),(6,.int .i64 s.2.1)])
   (fun s=>ae b (cl (pre++eJ s.2.2++junk) 410)::X::F) (i0,i0+1,l) ⟨by simp,by simp only;omega,rfl,by simp only[h1,List.filter_append,Ec];simp[Fs],rfl⟩ rfl bS (ao.refl _) ?_
  rintro⟨i,j,E⟩⟨Jn,KK,Ed,uD,HB⟩ ih
  simp only at Jn KK Ed uD HB
  have ir:(eJ E).length=l.length*3:=by rw[gI,bT fb,Ed]
  have hvE:Vw (ae b (cl (pre++eJ E++junk) 410)) (.slice (some ⟨b,o,none⟩) l.length c) l.length (eJ E):=Vw.ae (by rw[List.append_assoc,← j8,List.drop_left,List.take_left])
  refine go ?_
  refine aq zr zr ?_ ?_
  ·intro cL
   simp only at cL
   have p8:j<l.length:=by omega
   obtain⟨⟨fx,ax,bx⟩,hx⟩:∃x,l[j]?=some x:=⟨l[j],by simp[p8]⟩
   have hEx:E[j]?=some (fx,ax,bx):=by
    have:=congrArg (·[0]?) HB
    grind
   have eR:=List.mem_of_getElem? hx
   obtain⟨ab,nb,cb,wO⟩:=dL _ eR
   simp only at wO
   subst wO
   have PA:=hf _ eR
   refine go ?_
   refine bW j 3 zr zr zr zr zr zr zr zr p8 ?_
   refine cd (U:=aU) (es:=zm (fx,ax,.slice ab nb cb)) 0 (j*3) zr zr zr hvE rfl (fun q v hq=>?_) zr zr zr ?_
   ·have BE:q<3:=by
     grind [fb]
    rw[gI,cM fb hEx q BE];exact hq
   refine az zr zr zr bh ?_
   intro bv
   refine go ?_
   refine bP 0 zr zr zr zr zr zr ?_
   refine cg [2] zr zr zr zr (PA) rfl jk ?_
   rintro _ _⟨rfl,rfl⟩
   refine go ?_
   refine dY zr zr ?_ ?_
   ·intro hp
    have qX:p (fx,ax,.slice ab nb cb)=false:=by simpa using hp
    refine go ?_
    refine bP 1 zr zr zr zr zr zr (go ?_)
    refine bW i 3 zr zr zr zr zr zr zr zr ai ?_
    refine lr (U:=aU) (l':=pre++eJ (E.set i (fx,ax,.slice ab nb cb))++junk) 2 e8 zr zr zr zr zr zr zr ?_ ?_ rfl ?_
    ·show o+i*3+3≤_
     rw[List.length_append,List.length_append,ir];omega
    ·show _=List.take (o+i*3) (pre++eJ E++junk)++zm (fx,ax,.slice ab nb cb)++List.drop (o+i*3+(zm (fx,ax,.slice ab nb cb)).length) (pre++eJ E++junk)
     rw[← j8,qp _ _ _ _ _ (by rw[fb,ir];omega),gI,zL fb ai]
     rfl
    refine go ?_
    refine aM ih (i+1,j+1,E.set i (fx,ax,.slice ab nb cb)) rfl ⟨by simp only;omega,by simp only;omega,by simp only[List.length_set];exact Ed,?_,?_⟩ (by simp only;omega) bS (ao.to [2,0] 1 zr zr zr)
    ·simp only
     rw[List.take_add_one,List.take_set_of_le (Nat.le_refl i),uD,List.take_add_one (l:=l),hx,List.getElem?_set_self ai]
     simp[List.filter_append,qX]
    ·simp only
     rw[List.drop_set_of_lt ai,← List.drop_drop,HB,List.drop_drop]
   ·intro hp
    have qX:p (fx,ax,.slice ab nb cb)=true:=by simpa using hp
    refine go ?_
    refine aM ih (i,j+1,E) rfl ⟨by simp only;omega,by simp only;omega,Ed,by simp only;rw[uD,List.take_add_one,hx];simp[List.filter_append,qX],by simp only;rw[← List.drop_drop,HB,List.drop_drop]⟩ (by simp only;omega) bS (ao.to [2,0] 1 zr zr zr)
  ·intro ep
   refine go ?_
   simp only at ep
   have QX:j=l.length:=by omega
   subst QX
   rw[List.take_length]at uD
   have wG:(l.filter fun x => !p x).length=i:=by rw[← uD,List.length_take];omega
   refine iH zr zr zr zr zr zr zr ai ai (.inl rfl) ?_
   intro o1 Hi KJ
   simp only[Int.toNat_natCast]at Hi KJ
   have CM:i≠c→o1=o+i*3:=Hi
   have hL:(pre++eJ E++junk).length=o+l.length*3+junk.length:=by rw[List.length_append,List.length_append,ir,j8]
   obtain⟨k7,CS,ab9⟩:∃k7,(pre++eJ E++junk).take o1++(List.replicate (((l.length:Int).toNat-(i:Int).toNat)) [Value.pointer none,.int .i64 0,.slice none 0 0]).flatten++(pre++eJ E++junk).drop (o1+((l.length:Int).toNat-(i:Int).toNat)*3)=pre++eJ (E.take i)++k7∧c*3≤i*3+k7.length:=by
    have MX:i≠c:=by omega
    rw[CM MX,← j8,List.append_assoc pre,List.take_length_add_append,List.take_append_of_le_length (by rw[ir];omega),gI,gI,qH fb E i ai]
    refine⟨_,by rw[List.append_assoc],?_⟩
    rw[List.length_append,List.length_drop,iZ]
    simp only[List.length_append,List.length_cons,List.length_nil,bT fb,Ed,Int.toNat_natCast]
    grind
   refine vo (U:=aU) (l':=pre++eJ (E.take i)++k7) 0 e8 zr zr zr zr zr zr zr zr ?_ ?_ rfl ?_
   ·have MX:i≠c:=by omega
    show o1+((l.length:Int).toNat-(i:Int).toNat)*3≤_
    rw[CM MX,hL];omega
   ·rw[← CS];rfl
   refine go ?_
   refine iH zr zr zr zr zr zr zr ai ai (.inr ai) ?_
   intro o2 ho3 ho4
   have MO:o2=o:=by
    grind
   subst MO
   refine go ?_
   refine al (gq (sz:=3) (nn:=i) (c:=c) j8 ai (by rw[gI,bT fb,List.length_take];omega) (by rw[gI,bT fb,List.length_take];omega) _) ?_
   rw[← uD,uD,wG,← uD]at hE
   refine aK hE Tryz.func338 rfl _ zr zr (ao.fin [0,1] 0 zr zr)
def yB(bd:Nat)(D:Dk)(A:Ab)(hR:Rel D A) :
    au Tryz.prog 61 [ptr bd] [gn bd D] (fun v H=>∃D',Rel D' A.cF.2∧H=[gn bd D']∧v = .int .i64 A.cF.1):=by
  refine au.ak Tryz.func61 Tryz.ntmps61 fun G F R hE=>?_
  refine go ?_
  refine cg [0] zr zr zr zr (wo bd D A hR true) rfl jk ?_
  rintro _ _⟨D',fA,rfl,rfl⟩
  refine go ?_
  refine dY zr zr ?_ ?_
  · intro h0
    have od:¬(A.meet true).1=0:=by have:=of_decide_eq_true h0;omega
    have hf:A.cF=((A.meet true).1,(A.meet true).2):=by simp[Ab.cF,od]
    rw[hf]at hE
    refine go ?_
    refine aK hE Tryz.func61 rfl _ rfl ⟨D',fA,rfl,rfl⟩ (ao.fin [0] 0 zr zr)
  · intro h0
    have od:(A.meet true).1=0:=by have:=of_decide_eq_false h0;omega
    have hf:A.cF=(0,{ (A.meet true).2 with aV:=[(A.meet true).2.names] }):=by simp[Ab.cF,od]
    rw[hf]at hE
    obtain⟨room,bm,mz,nV,oC,off,maps,fy,files,lx,wl⟩:=D'
    refine al (iz _ _ _ _ _ _ _ _ _ _ _ _ _) (go ?_)
    refine aj zr zr zr zr zr zr zr zr zr bh ?_
    intro b0
    refine go ?_
    refine al (ef 68 1 b0 1 1 [.map (some bm)] [] _ rfl (Nat.le_refl _) (by simp)) ?_
    refine al (ao.pick [1,2,3,4,0,6] rfl) ?_
    refine al (dU bd room bm _ nV oC off maps fy files [bm] wl _) ?_
    have PN:Rel ⟨room,bm,.slice (some ⟨b0,0,none⟩) 1 1,nV,oC,off,maps,fy,files,[bm],wl⟩ { (A.meet true).2 with aV:=[(A.meet true).2.names] } :=
      { room:=fA.room,off:=fA.off,names:=fA.names,aV:=fK.one fA.names,fs:=fA.fs,writes:=fA.writes,dN:=fA.dN,ids:=fA.ids
        known:=fun st dK=>fA.known st (by simp only[List.mem_cons,List.not_mem_nil,or_false]at dK;rcases dK with rfl|rfl <;> exact List.mem_cons_self ..)
        gV:=fA.gV
        nodup:=fun st dK=>fA.nodup st (by simp only[List.mem_cons,List.not_mem_nil,or_false]at dK;rcases dK with rfl|rfl <;> exact List.mem_cons_self ..)
        gb:=fA.gb,iw:=fA.iw
        fj:=fun st dK=>fA.fj st (by simp only[List.mem_cons,List.not_mem_nil,or_false]at dK;rcases dK with rfl|rfl <;> exact List.mem_cons_self ..)
        gU:=fA.gU,jZ:=fA.jZ,full:=by simp }
    refine aK hE Tryz.func61 rfl _ rfl ⟨_,PN,rfl,rfl⟩ (ao.fin [0] 1 zr zr)
theorem fK.filter{α β:Type}{q:α→β→Prop}{l:List α}{r:List β}(h:fK q l r){p1:α→Bool}{p2:β→Bool}(hp:∀x y,q x y→p1 x=p2 y):fK q (l.filter p1) (r.filter p2):=by
 induction l generalizing r with
 | nil =>
  have:r=[]:=List.eq_nil_of_length_eq_zero h.1.symm
  grind
 | cons x l ih =>
  cases r with
  | nil=>exact absurd h.1 (by simp)
  | cons y r =>
   have h0:=h.2 0 x y zr zr
   have ht:fK q l r:=⟨by have:=h.1;simpa using this,fun i a b ha hb=>h.2 (i+1) a b (by simpa using ha) (by simpa using hb)⟩
   rw[List.filter_cons,List.filter_cons,hp x y h0]
   split
   ·exact(ih ht).cons h0
   grind
theorem K5{fs:List (Nat × List UInt8 × List UInt8)}(hn:(fs.map (·.1)).Nodup){x:List UInt8 × List UInt8}(hi:fs[i]?=some (f,x)):Ab.oh fs f=fs.set i (f,x.1,x.1):=by
 induction fs generalizing i with
 | nil=>simp at hi
 | cons y l ih =>
  simp only[List.map_cons,List.nodup_cons]at hn
  cases i with
  | zero =>
   simp at hi
   subst hi
   simp only[Ab.oh,List.map_cons,if_true,List.set_cons_zero,List.cons.injEq,true_and]
   rw[List.map_congr_left (g:=id) (fun z hz=>?_),List.map_id]
   grind
  | succ i =>
   simp at hi
   have fu:y.1≠f:=fun e=>hn.1 (List.mem_map.2 ⟨_,List.mem_of_getElem? hi,e.symm⟩)
   have:=ih hn.2 hi
   simp only[Ab.oh]at this
   simp only[Ab.oh,List.map_cons,fu,if_false,List.set_cons_succ,this]
theorem vx(fs:List (Nat × List UInt8 × List UInt8))(f:Nat):(Ab.oh fs f).map (·.1)=fs.map (·.1):=by
 simp only[Ab.oh,List.map_map]
 apply List.map_congr_left
 grind
theorem Rel.synced{D:Dk}(h:Rel D A){w:Value}(hi:D.files[i]?=some (f,v1,v2))(ha:A.fs[i]?=some (f,A.now f,A.sure f)) :
  Rel { D with files:=D.files.set i (f,v1,v1),nV:=w,wl:=D.wl.filter fun x => !decide (x.1=f) } { A with fs:=Ab.oh A.fs f,writes:=A.writes.filter fun x => !decide (x.1=f) } where
 room:=h.room
 off:=h.off
 names:=h.names
 aV:=h.aV
 fs:=by
  rw[K5 h.ids ha]
  have h2:=h.fs.2 i _ _ hi ha
  exact fK.set h.fs i ⟨rfl,h2.2.1,h2.2.1⟩
 writes:=fK.filter h.writes (fun x y I8=>by rw[I8.1])
 dN:=h.dN
 ids:=by simp only[vx];exact h.ids
 known:=by simp only[vx];exact h.known
 gV:=by
  simp only[vx]
  exact fun x hx=>h.gV x (List.mem_filter.1 hx).1
 nodup:=h.nodup
 gb:=by
  intro x hx
  simp only[Ab.oh,List.mem_map]at hx
  obtain⟨y,hy,rfl⟩:=hx
  have:=h.gb y hy
  grind
 iw:=fun x hx=>h.iw x (List.mem_filter.1 hx).1
 fj:=h.fj
 gU:=h.gU
 jZ:=h.jZ
 full:=h.full
theorem NF(bd:Nat)(D:Dk)(A:Ab)(hR:Rel D A)(name:ByteArray)(ir:A.writes.length≤1000000000) :
  au Tryz.prog 240 [ptr bd,.string name] [gn bd D]
   (fun v H=>∃D',Rel D' (A.sync (isName name) name).2∧H=[gn bd D']∧v = .int .i64 (A.sync (isName name) name).1):=by
 refine au.ak Tryz.func240 Tryz.ntmps240 fun G F R hE=>?_
 refine go ?_
 refine aj zr zr zr zr zr zr zr zr zr bh ?_
 intro b0
 refine go ?_
 refine cg [0] zr zr zr zr (iE _ _ [name] (Vw.ae rfl) (by simp)) rfl jk ?_
 rintro _ _⟨rfl,rfl⟩
 have e1:[name].all isName=isName name:=by simp
 rw[e1]
 refine go ?_
 refine cg [1] zr zr zr zr (i' bd D A hR name (isName name)) rfl jk ?_
 generalize nD:isName name=ok at hE ⊢
 rintro _ _⟨D',fA,rfl,rfl⟩
 by_cases od:(A.find name ok).1=0
 ·obtain⟨Y6,fl,sM,eR⟩:=lf od
  have hw:A.sync ok name=(0,{ (A.find name ok).2.2 with fs:=Ab.oh (A.find name ok).2.2.fs fl,writes:=(A.find name ok).2.2.writes.filter fun x => !decide (x.1=fl) }):=by simp[Ab.sync,od,sM]
  rw[hw]at hE
  rw[sM,od]
  have adm:(A.find name ok).2.2.writes.length≤1000000000:=by rw[(mN A name ok).2.2.2.1];exact ir
  generalize (A.find name ok).2.2=A1 at *
  obtain⟨room,bm,mz,nV,oC,off,maps,fy,files,lx,wl⟩:=D'
  obtain⟨i,v1,v2,hi,CT,mH,pN⟩:=fA.file (f:=fl) (fA.known _ (List.mem_cons_self ..) _ eR)
  obtain⟨a,cap,rfl,fY⟩:=mH.shape
  refine go ?_
  refine az zr zr zr bh ?_
  intro c5
  refine go ?_
  refine al (ao.pick [1] rfl) ?_
  refine al (iz _ _ _ _ _ _ _ _ _ _ _ _ _) ?_
  refine al (ao.pick [3] rfl) ?_
  refine al (kG gk hi _) ?_
  refine aL (fun w=>Sat G w ([ae c5 (cl [ptr fl] 235),ae fl (cl [.slice a (A1.now fl).length cap,v2] 355)])) (cJ 0 7 (.act 7 .nil)) rfl ah ah ah (fun w hw=>hw.cu (ao.bM ([7,0]) rfl)) ?_
  refine go ?_
  refine aN (yT gk (y:=(fl,.slice a (A1.now fl).length cap,.slice a (A1.now fl).length cap)) hi _) ?_
  refine aN (ao.pick [6,0] rfl) ?_
  refine aN (ao.join _ _ _) ?_
  have nY:(files.set i (fl,.slice a (A1.now fl).length cap,.slice a (A1.now fl).length cap)).map (·.1)=files.map (·.1):=by
   rw[List.map_set]
   apply List.ext_getElem?
   grind
  have xY:=fA.acC
  simp only at xY
  have hwx:∀x∈wl,(∃a n c,x.2.2 = .slice a n c)∧x.1∈files.map (·.1):=fun x hx=>by
   obtain⟨j,hj⟩:=List.getElem?_of_mem hx
   obtain⟨y,hy,h1,_,h3⟩:=fA.writes.left hj
   obtain⟨a,c,h4,_⟩:=h3.shape
   refine⟨⟨_,_,_,h4⟩,?_⟩
   rw[xY,h1]
   exact fA.gV y (List.mem_of_getElem? hy)
  refine cg [5,0] zr zr zr zr (uT nV wl (star (ae c5 (cl [ptr fl] 235)) (aS gk (files.set i (fl,.slice a (A1.now fl).length cap,.slice a (A1.now fl).length cap)))) 339 [ptr c5] (fun x=>decide (x.1=fl)) (by have:=fA.writes.1;simp only at this;omega) (fun x hx=>(hwx x hx).1)
   (fun x hx=>J8 c5 fl x.1 x.2.1 x.2.2 _ (by rw[nY,xY];exact List.mem_map.2 ⟨_,List.mem_of_getElem? CT,rfl⟩) (by rw[nY];exact(hwx x hx).2) (by obtain⟨⟨a,n,c,h⟩,_⟩:=hwx x hx;rw[h];rfl))) rfl jk ?_
  rintro r _ rfl
  refine aH 0 rfl ?_
  rintro ar cr rfl
  refine go ?_
  refine al (ao.pick [1] rfl) ?_
  refine al (ao.part _ _ _) ?_
  refine al (ao.pick [3,4,5,1,6,2] rfl) ?_
  refine al (dU bd room bm mz _ oC off maps fy _ lx _ _) ?_
  refine aK hE Tryz.func240 rfl _ rfl ⟨_,fA.synced hi CT,rfl,rfl⟩ (ao.fin [0] 2 zr zr)
 ·have hw:A.sync ok name=((A.find name ok).1,(A.find name ok).2.2):=by simp[Ab.sync,od]
  rw[hw]at hE
  cases BG:(A.find name ok).2.1 with
  | none =>
   refine go ?_
   refine az zr zr zr bh ?_
   intro c5
   refine go ?_
   refine dY zr zr ?_ ?_
   ·intro _
    refine go ?_
    refine aK hE Tryz.func240 rfl _ rfl ⟨D',fA,rfl,rfl⟩ (ao.fin [1] 2 zr zr)
   ·intro h;exfalso;have:=of_decide_eq_false h;omega
  | some fl =>
   refine go ?_
   refine az zr zr zr bh ?_
   intro c5
   refine go ?_
   refine dY zr zr ?_ ?_
   ·intro _
    refine go ?_
    refine aK hE Tryz.func240 rfl _ rfl ⟨D',fA,rfl,rfl⟩ (ao.fin [1] 2 zr zr)
   ·intro h;exfalso;have:=of_decide_eq_false h;omega
abbrev Fss:=List (Nat × List UInt8 × List UInt8)
def mark(S:List Nat)(fs:Fss):Fss:=fs.map fun x=>if x.1∈S then(x.1,x.2.2,x.2.2)else x
def Gc(bd:Nat)(D:Dk)(A:Ab)(hR:Rel D A)(old name:ByteArray)(dK:A.aV.length≤1000000000) :
  au Tryz.prog 242 [ptr bd,.string old,.string name] [gn bd D]
   (fun v H=>∃D',Rel D' (A.rename ([old,name].all isName) old name).2∧H=[gn bd D']∧v = .int .i64 (A.rename ([old,name].all isName) old name).1):=by
 refine au.ak Tryz.func242 Tryz.ntmps242 fun G F R hE=>?_
 refine go ?_
 refine bu zr zr bh ?_
 intro xq
 refine bu zr zr bh ?_
 intro xp
 refine go ?_
 cases BG:(A.find old ([old,name].all isName)).2.1 with
 | none =>
  refine aL (fun w=>Sat G w ([ae xp (cl [.string name] 9),ae xq (cl [.string old] 9)])) (cJ 0 4 (.fork (.act 4 (.fork (.act 5 (.fork (.act 6 (cJ 7 3 (.act 10 (.act 11 (.st 12 .nil))))) (.act 10 (.act 6 (cJ 7 3 (.act 11 (.st 12 .nil))))))) (.act 10 (.act 5 (.act 6 (cJ 7 3 (.act 11 (.st 12 .nil)))))))) (.act 10 (.act 4 (.act 5 (.act 6 (cJ 7 3 (.act 11 (.st 12 .nil))))))))) rfl ah ah ah (fun w hw=>hw.cu (ao.bM ([0,1]) rfl)) ?_
  repeat'(first|(with_reducible intro jg)|refine er ?_|refine nM ?_ ?_|refine aq zr zr ?_ ?_|(refine aj zr zr zr zr zr zr zr zr zr (fun _ w hw=>hw.cu (by first|exact ao.bM [1,2] rfl|exact ao.bM [2,3] rfl)) ?_;intro _)|(refine az zr zr zr (fun _ w hw=>hw.cu (by first|exact ao.bM [1,2] rfl|exact ao.bM [2,3] rfl|exact ao.bM [3,4] rfl)) ?_;intro _)|(refine cg [0] rfl rfl rfl rfl (iE _ _ [old,name] (Vw.ae rfl) (by simp)) rfl (fun _ _ w hp hw=>by obtain⟨_,rfl⟩:=hp;exact(fun _ w hw=>hw.cu (by first|exact ao.bM [1,2] rfl|exact ao.bM [2,3] rfl)) 0 w hw) ?_;rintro _ _⟨rfl,rfl⟩)|(refine cg [1] rfl rfl rfl rfl (iE _ _ [old,name] (Vw.ae rfl) (by simp)) rfl (fun _ _ w hp hw=>by obtain⟨_,rfl⟩:=hp;exact(fun _ w hw=>hw.cu (by(exact ao.bM [2,3] rfl))) 0 w hw) ?_;rintro _ _⟨rfl,rfl⟩)|(refine cg [3] rfl rfl rfl rfl (i' bd D A hR old ([old,name].all isName)) rfl (fun _ _ w hp hw=>by obtain⟨_,_,rfl,_⟩:=hp;exact(fun _ w hw=>hw.cu (by(exact ao.bM [2,3] rfl))) 0 w hw) ?_;rintro _ _⟨D',fA,rfl,rfl⟩;rw[BG])|(refine cg [4] rfl rfl rfl rfl (i' bd D A hR old ([old,name].all isName)) rfl (fun _ _ w hp hw=>by obtain⟨_,_,rfl,_⟩:=hp;exact(fun _ w hw=>hw.cu (by(exact ao.bM [3,4] rfl))) 0 w hw) ?_;rintro _ _⟨D',fA,rfl,rfl⟩;rw[BG])|(refine aY ?_;first|refine bN 0 (fun w hw=>(fun _ w hw=>hw.cu (by(exact ao.bM [3,4] rfl))) 0 w hw) zr zr zr zr zr zr zr zr zr ?_|refine bN 1 (fun w hw=>(fun _ w hw=>hw.cu (by(exact ao.bM [3,4] rfl))) 0 w hw) zr zr zr zr zr zr zr zr zr ?_|refine bN 2 (fun w hw=>(fun _ w hw=>hw.cu (by(exact ao.bM [3,4] rfl))) 0 w hw) zr zr zr zr zr zr zr zr zr ?_))
  all_goals(
   have od:¬(A.find old ([old,name].all isName)).1=0:=fun h=>by obtain⟨_,fl,h1,_⟩:=lf h;rw[BG]at h1;cases h1
   have hw:A.rename ([old,name].all isName) old name=((A.find old ([old,name].all isName)).1,(A.find old ([old,name].all isName)).2.2):=by
    unfold Ab.rename
    generalize A.find old ([old,name].all isName)=z at od BG ⊢
    obtain⟨e,fo,A1⟩:=z
    simp only at BG
    subst BG
    cases e <;> rfl
   rw[hw]at hE
   first|(exfalso;omega)|refine aK hE Tryz.func242 rfl _ rfl ⟨D',fA,rfl,rfl⟩ (ao.fin [0] 4 zr zr)|refine aK hE Tryz.func242 rfl _ rfl ⟨D',fA,rfl,rfl⟩ (ao.fin [1] 4 zr zr))
 | some fl =>
  refine aL (fun w=>Sat G w ([ae xp (cl [.string name] 9),ae xq (cl [.string old] 9)])) (cJ 0 4 (.fork (.act 4 (.fork (.act 5 (.fork (.act 6 (cJ 7 3 (.act 10 (.act 11 (.st 12 .nil))))) (.act 10 (.act 6 (cJ 7 3 (.act 11 (.st 12 .nil))))))) (.act 10 (.act 5 (.act 6 (cJ 7 3 (.act 11 (.st 12 .nil)))))))) (.act 10 (.act 4 (.act 5 (.act 6 (cJ 7 3 (.act 11 (.st 12 .nil))))))))) rfl ah ah ah (fun w hw=>hw.cu (ao.bM ([0,1]) rfl)) ?_
  repeat'(first|(with_reducible intro jg)|refine er ?_|refine nM ?_ ?_|refine aq zr zr ?_ ?_|(refine aj zr zr zr zr zr zr zr zr zr (fun _ w hw=>hw.cu (by first|exact ao.bM [1,2] rfl|exact ao.bM [2,3] rfl)) ?_;intro _)|(refine az zr zr zr (fun _ w hw=>hw.cu (by first|exact ao.bM [1,2] rfl|exact ao.bM [2,3] rfl|exact ao.bM [3,4] rfl)) ?_;intro _)|(refine cg [0] rfl rfl rfl rfl (iE _ _ [old,name] (Vw.ae rfl) (by simp)) rfl (fun _ _ w hp hw=>by obtain⟨_,rfl⟩:=hp;exact(fun _ w hw=>hw.cu (by first|exact ao.bM [1,2] rfl|exact ao.bM [2,3] rfl)) 0 w hw) ?_;rintro _ _⟨rfl,rfl⟩)|(refine cg [1] rfl rfl rfl rfl (iE _ _ [old,name] (Vw.ae rfl) (by simp)) rfl (fun _ _ w hp hw=>by obtain⟨_,rfl⟩:=hp;exact(fun _ w hw=>hw.cu (by(exact ao.bM [2,3] rfl))) 0 w hw) ?_;rintro _ _⟨rfl,rfl⟩)|(refine cg [3] rfl rfl rfl rfl (i' bd D A hR old ([old,name].all isName)) rfl (fun _ _ w hp hw=>by obtain⟨_,_,rfl,_⟩:=hp;exact(fun _ w hw=>hw.cu (by(exact ao.bM [2,3] rfl))) 0 w hw) ?_;rintro _ _⟨D',fA,rfl,rfl⟩;rw[BG])|(refine cg [4] rfl rfl rfl rfl (i' bd D A hR old ([old,name].all isName)) rfl (fun _ _ w hp hw=>by obtain⟨_,_,rfl,_⟩:=hp;exact(fun _ w hw=>hw.cu (by(exact ao.bM [3,4] rfl))) 0 w hw) ?_;rintro _ _⟨D',fA,rfl,rfl⟩;rw[BG])|(refine aY ?_;first|refine bN 0 (fun w hw=>(fun _ w hw=>hw.cu (by(exact ao.bM [3,4] rfl))) 0 w hw) zr zr zr zr zr zr zr zr zr ?_|refine bN 1 (fun w hw=>(fun _ w hw=>hw.cu (by(exact ao.bM [3,4] rfl))) 0 w hw) zr zr zr zr zr zr zr zr zr ?_|refine bN 2 (fun w hw=>(fun _ w hw=>hw.cu (by(exact ao.bM [3,4] rfl))) 0 w hw) zr zr zr zr zr zr zr zr zr ?_))
  all_goals(
   have od:(A.find old ([old,name].all isName)).1=0:=by
    rcases Nat.eq_zero_or_pos (A.find old ([old,name].all isName)).1 with h|h
    ·exact h
    ·exfalso
     unfold Ab.find at BG h
     split at BG
     ·rename_i h1
      rw[if_pos h1]at h
      cases hl:(A.meet ([old,name].all isName)).2.look old with
      | none=>rw[hl]at BG;cases BG
      | some f=>rw[hl]at h;simp at h
     ·cases BG)
  any_goals (exfalso;omega)
  all_goals(
   obtain⟨_,fl',ack,eR⟩:=lf od
   rw[BG]at ack
   cases ack
   have hw:A.rename ([old,name].all isName) old name=(0,(A.find old ([old,name].all isName)).2.2.pV (Ab.j0 (Ab.ez (A.find old ([old,name].all isName)).2.2.names old) name fl)):=by
    unfold Ab.rename
    generalize A.find old ([old,name].all isName)=z at od BG ⊢
    obtain⟨e,fo,A1⟩:=z
    simp only at od BG
    subst od BG
    rfl
   rw[hw]at hE
   have ME:(A.find old ([old,name].all isName)).2.2.aV.length≤1000000000:=by rw[(mN A old _).2.2.1];exact dK
   generalize (A.find old ([old,name].all isName)).2.2=A1 at *
   have MD:D'.lx.length≤1000000000:=by rw[fA.aV.1];exact ME
   have hN:=fA.fj _ (List.mem_cons_self ..)
   have cL:=P4 eR
   have Hk:=Ls (Ab.ez A1.names old) name fl
   have Zr:∀b' v,Rel { D' with bm:=b',maps:=(b',fk (Ab.j0 (Ab.ez A1.names old) name fl))::D'.maps,mz:=v,lx:=D'.lx++[b'] } (A1.pV (Ab.j0 (Ab.ez A1.names old) name fl)):=fun b' v=>fA.pV
    (fun x hx=>by
     rcases Lr hx with rfl|hx
     ·have:=fA.known _ (List.mem_cons_self ..) _ eR;exact this
     ·exact fA.known _ (List.mem_cons_self ..) _ (C4 hx).1)
    (Ev (w8 (fA.nodup _ (List.mem_cons_self ..)) old) name fl) ai
   first|(refine aN (ao.pick ([4,0,3,1]) rfl) ?_;refine aN (ao.bK [_,_,_] _) ?_;refine cg [1,0] zr zr zr zr (lg (α:=Unit) bd D' A1.names fA.names 340 #[ptr xq,ptr _,ptr xp] _ (fun _=>Ab.j0 (Ab.ez A1.names old) name fl) (fun _=>emp) (fun _=>True) (fun b'=>au.post (pe b' xq _ xp fl A1.names old name) (fun v H h=>⟨(),trivial,h⟩)) MD) rfl jk ?_;rintro _ _⟨_,b',v,_,rfl⟩;refine go ?_;refine aK hE Tryz.func242 rfl _ rfl ⟨_,Zr b' v,rfl,rfl⟩ (ao.fin [0] 2 zr zr))|(refine aN (ao.pick ([4,1,3,0]) rfl) ?_;refine aN (ao.bK [_,_,_] _) ?_;refine cg [1,0] zr zr zr zr (lg (α:=Unit) bd D' A1.names fA.names 340 #[ptr xq,ptr _,ptr xp] _ (fun _=>Ab.j0 (Ab.ez A1.names old) name fl) (fun _=>emp) (fun _=>True) (fun b'=>au.post (pe b' xq _ xp fl A1.names old name) (fun v H h=>⟨(),trivial,h⟩)) MD) rfl jk ?_;rintro _ _⟨_,b',v,_,rfl⟩;refine go ?_;refine aK hE Tryz.func242 rfl _ rfl ⟨_,Zr b' v,rfl,rfl⟩ (ao.fin [0] 2 zr zr))|(refine aN (ao.pick ([4,2,3,0]) rfl) ?_;refine aN (ao.bK [_,_,_] _) ?_;refine cg [1,0] zr zr zr zr (lg (α:=Unit) bd D' A1.names fA.names 340 #[ptr xq,ptr _,ptr xp] _ (fun _=>Ab.j0 (Ab.ez A1.names old) name fl) (fun _=>emp) (fun _=>True) (fun b'=>au.post (pe b' xq _ xp fl A1.names old name) (fun v H h=>⟨(),trivial,h⟩)) MD) rfl jk ?_;rintro _ _⟨_,b',v,_,rfl⟩;refine go ?_;refine aK hE Tryz.func242 rfl _ rfl ⟨_,Zr b' v,rfl,rfl⟩ (ao.fin [0] 2 zr zr)))
end Go.Proofs.YtlcoaflddajjcaaGreatDoor
