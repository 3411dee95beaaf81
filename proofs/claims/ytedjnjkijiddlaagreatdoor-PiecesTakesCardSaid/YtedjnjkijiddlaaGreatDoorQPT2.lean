import Derived.Test.YtedjnjkijiddlaaGreatDoorQPT1
import Derived.IntWalk
import Derived.Laws.BytesString
import Derived.Laws.IdiomStrings
set_option linter.unusedSectionVars false
set_option linter.unusedSimpArgs false
set_option linter.unusedVariables false
set_option linter.defProp false
namespace Go.SL
inductive acq where
 | mk (H:List HP)
 | no
def Sc:List HP→List HP→acq
 | [],l => .mk l
 | x::acc,l=>Sc acc (x::l)
def lH:Nat→HP→List HP→List HP→acq
 | _,_,[],_ => .no
 | 0,A,_::l,acc=>Sc acc (A::l)
 | i+1,A,B::l,acc=>lH i A l (B::acc)
def Sb(acc l r:List HP)(h:Sc acc l = .mk r):r=acc.reverse++l:=by
 induction acc generalizing l with
 | nil=>simp[Sc]at h;simp[h]
 | cons x acc ih=>have:=ih (x::l) h;simp[this]
def oQ(i:Nat)(A B:HP)(H acc r:List HP)(h:lH i A H acc = .mk r)(hB:cE H i=some B):r.Perm (A::(acc.reverse++H.eraseIdx i)):=by
 induction H generalizing i acc with
 | nil=>cases i <;> simp[lH]at h
 | cons C l ih =>
  cases i with
  | zero =>
   simp only[lH]at h
   rw[Sb _ _ _ h]
   simp only[List.eraseIdx_cons_zero]
   exact List.perm_middle
  | succ i =>
   simp only[lH]at h
   simp only[cE]at hB
   have:=ih i (C::acc) h hB
   simpa using this
def Sat.put{G:cJ}{w:World}{H H':List HP}{i:Nat}{b:Nat}{o o':Obj}(hs:Sat G w H)(hi:cE H i=some (ae b o))(hp:lH i (ae b o') H [] = .mk H') :
  Sat G { w with heap:=w.heap.setIfInBounds b o' } H':=by
 have h1:=hs.set (o':=o') (i:=i) (by rw[← dM];exact hi)
 have h2:=oQ i _ _ H [] H' hp hi
 exact h1.cV (al.perm (by simpa using h2.symm))
def dF(h:Hp)(b off:Nat):Option Value:=match h b with
 | some (.cells c _ _)=>c[off]?
 | _=>none
def Vw(A:HP)(v:Value)(n:Nat)(cs:List Value):Prop :=
 ∃a cap,v = .slice a n cap∧(cs=[]∨∃b o,a=some ⟨b,o,none⟩∧∀h,A h→∀j c,cs[j]?=some c→dF h b (o+j)=some c)
def aB(e:TypeId)(size:Nat)(v:Value)(n:Nat)(cs:List Value):HP:=fun h =>
 cs.length=n*size∧((∃a,v = .slice a 0 0∧n=0∧emp h) ∨
  ∃b o cap pre bT,v = .slice (some ⟨b,o,none⟩) n cap∧pre.length=o∧n≤cap∧cap*size≤cs.length+bT.length∧ae b (cl (pre++cs++bT) e) h)
def dW{h:Hp}{w:World}{b off:Nat}{v:Value}(hw:∀b o,h b=some o→w.heap[b]?=some o)(hc:dF h b off=some v):w.cell? ⟨b,off,none⟩=some v:=by
 unfold dF at hc
 split at hc
 ·rename_i c e fr hb
  simp[World.cell?,hw b _ hb,hc]
 ·cases hc
def Sat.lf{G:cJ}{w:World}{H:List HP}(hs:Sat G w H){i:Nat}{A:HP}(hi:cE H i=some A):∃h:Hp,(∀b o,h b=some o→w.heap[b]?=some o)∧A h:=by
 rw[dM]at hi
 exact(hs.cV (al.perm (dj hi))).head
def Sat.tW{G:cJ}{w:World}{H:List HP}(hs:Sat G w H){i:Nat}{b:Nat}{o:Obj}(hi:cE H i=some (ae b o)):w.heap[b]?=some o:=by
 rw[dM]at hi
 exact hs.get hi
def pC:List Value→Nat→Nat→List Value→L8
 | l,0,0,acc=>let _:=l;Cy acc []
 | x::l,0,m+1,acc=>pC l 0 m (x::acc)
 | _::l,i+1,m,acc=>pC l i m acc
 | [],_,_,_ => .no
def DB:∀(l:List Value) (i m:Nat) (acc r:List Value),pC l i m acc = .mk r→r=acc.reverse++(l.drop i).take m∧i+m≤l.length:=by
 intro l
 induction l with
 | nil =>
  intro i m acc r h
  cases i with
  | zero=>cases m with
   | zero=>simp only[pC]at h;have:=rp _ _ _ h;simp[this]
   | succ m=>simp[pC]at h
  | succ i=>cases m <;> simp[pC]at h
 | cons x l ih =>
  intro i m acc r h
  cases i with
  | zero=>cases m with
   | zero=>simp only[pC]at h;have:=rp _ _ _ h;simp[this]
   | succ m =>
    simp only[pC]at h
    obtain⟨h1,h2⟩:=ih 0 m (x::acc) r h
    simp at h1 h2
    exact⟨by simp[h1],by simp;omega⟩
  | succ i =>
   have h':pC l i m acc = .mk r:=by cases m <;> simpa[pC]using h
   obtain⟨h1,h2⟩:=ih i m acc r h'
   exact⟨by simp[h1],by simp;omega⟩
section
variable{P:Program}{U:Tr}[hU:fX P U]{f:FuncId}{n:Nat}{R:Ending→World→Prop}{G:cJ}{k:List Item}{L:fJ}{H H':List HP}{S:World→Prop}{all:Array Oper}{rest:Pl}{ty:TypeId}{pos:String}{af:Array Edge}{gd:Option (Nat × Bool)}{m:Bool}{d:Tmp}
def oz{op:Op}(hd:Nat.blt d n=true)(q:Value→List HP→Prop)(hv:∀a w,Has n L a→Sat G w H→∃v w' H',(execOp a.eval ⟨some d,op,ty,pos,af,gd⟩).run P w = .ok (.value v) w'∧q v H'∧Sat G w' H')(hS:∀v H' w,q v H'→Sat G w H'→Sx rest S w)(h:∀v H',q v H'→J P f n R G S all rest k ((d,v)::L) H'):J P f n R G S all (.cons false true ⟨some d,op,ty,pos,af,gd⟩ rest) k L H:=by
 intro a w ha hw _
 obtain⟨v,w',H',hr,hq,mO⟩:=hv a w ha.1 hw
 refine .inl ⟨.inl rfl,.inr ⟨rfl,?_⟩⟩
 exact iD hr ⟨hS v H' w' hq mO,h v H' hq _ w' (ha.put hd v) mO (hS v H' w' hq mO)⟩
def Qd{op:Op}(q:List HP→Prop)(hv:∀a w,Has n L a→Sat G w H→∃w' H',(execOp a.eval ⟨none,op,ty,pos,af,gd⟩).run P w = .ok .skip w'∧q H'∧Sat G w' H')(hS:∀H' w,q H'→Sat G w H'→Sx rest S w)(h:∀H',q H'→J P f n R G S all rest k L H'):J P f n R G S all (.cons false true ⟨none,op,ty,pos,af,gd⟩ rest) k L H:=by
 intro a w ha hw _
 obtain⟨w',H',hr,hq,mO⟩:=hv a w ha.1 hw
 refine .inl ⟨.inl rfl,.inr ⟨rfl,?_⟩⟩
 exact wpIn_skip hr ⟨hS H' w' hq mO,h H' hq a w' ha mO (hS H' w' hq mO)⟩
def kJ{op:Op}{v:Value}(hd:Nat.blt d n=true)(hv:∀a w,Has n L a→Sat G w H→(execOp a.eval ⟨some d,op,ty,pos,af,gd⟩).run P w = .ok (.value v) w)(h:J P f n R G S all rest k ((d,v)::L) H):J P f n R G S all (.cons false true ⟨some d,op,ty,pos,af,gd⟩ rest) k L H:=by
 intro a w ha hw hS
 refine .inl ⟨.inl rfl,.inr ⟨rfl,?_⟩⟩
 exact iD (hv a w ha.1 hw) ⟨Sx.of hS,h _ w (ha.put hd v) hw (Sx.of hS)⟩
def kR{op:Op}{v:Value}(hd:Nat.blt d n=true)(hv:∀a w,Has n L a→S w→(execOp a.eval ⟨some d,op,ty,pos,af,gd⟩).run P w = .ok (.value v) w)(h:J P f n R G S all rest k ((d,v)::L) H):J P f n R G S all (.cons true true ⟨some d,op,ty,pos,af,gd⟩ rest) k L H:=by
 intro a w ha hw hS
 exact .inl ⟨.inl rfl,.inl ⟨rfl,v,fun w hw=>hv a w ha.1 hw,h _ w (ha.put hd v) hw (Sx.of hS)⟩⟩
def oN{t:TypeId}{bR:Ty}{b off:Nat}{v:Value}{w:World}(ht:U.get t=some bR)(hg:bR.isAgg=false)(hc:w.cell? ⟨b,off,none⟩=some v) :
  (Instr.loadAt t (.pointer (some ⟨b,off,none⟩))).run P w = .ok v w:=by
 simp[Instr.loadAt,Instr.sureAddr,loadVar,qQ ht,hg,hc]
def eY{t:TypeId}{x:Operand}{b off:Nat}{bR:Ty}{l:List Value}{e:TypeId}{v:Value}(i:Nat)(hd:Nat.blt d n=true)(hx:ev L x=some (.pointer (some ⟨b,off,none⟩)))(hi:cE H i=some (ae b (cl l e)))(hv:cE l off=some v)(ht:U.get t=some bR)(hg:bR.isAgg=false)(h:J P f n R G S all rest k ((d,v)::L) H):J P f n R G S all (.cons false true ⟨some d,.load t x,ty,pos,af,gd⟩ rest) k L H :=
 kJ hd (fun a w ha hw=>by
  have hc:w.cell? ⟨b,off,none⟩=some v:=by rw[dJ (hw.tW hi),← dM];exact hv
  simp[execOp,ha.ev hx,oN ht hg hc]) h
def C7{t:TypeId}{x:Operand}{b off:Nat}{bR:Ty}{v:Value}(hd:Nat.blt d n=true)(hx:ev L x=some (.pointer (some ⟨b,off,none⟩)))(hv:∀w,S w→w.cell? ⟨b,off,none⟩=some v)(ht:U.get t=some bR)(hg:bR.isAgg=false)(h:J P f n R G S all rest k ((d,v)::L) H):J P f n R G S all (.cons true true ⟨some d,.load t x,ty,pos,af,gd⟩ rest) k L H :=
 kR hd (fun a w ha hS=>by simp[execOp,ha.ev hx,oN ht hg (hv w hS)]) h
def xz{t:TypeId}{x:Operand}{b off:Nat}{bR:Ty}{v:Value}(hd:Nat.blt d n=true)(hx:ev L x=some (.pointer (some ⟨b,off,none⟩)))(hv:∀w,Sat G w H→w.cell? ⟨b,off,none⟩=some v)(ht:U.get t=some bR)(hg:bR.isAgg=false)(h:J P f n R G S all rest k ((d,v)::L) H):J P f n R G S all (.cons false true ⟨some d,.load t x,ty,pos,af,gd⟩ rest) k L H :=
 kJ hd (fun a w ha hS=>by simp[execOp,ha.ev hx,oN ht hg (hv w hS)]) h
def iz{Hs:List HP}{t:TypeId}{x:Operand}{b off:Nat}{bR:Ty}{l:List Value}{e:TypeId}{v:Value}(i:Nat)(hd:Nat.blt d n=true)(hx:ev L x=some (.pointer (some ⟨b,off,none⟩)))(hi:cE Hs i=some (ae b (cl l e)))(hv:cE l off=some v)(ht:U.get t=some bR)(hg:bR.isAgg=false)(h:J P f n R G (fun w=>Sat G w Hs) all rest k ((d,v)::L) H):J P f n R G (fun w=>Sat G w Hs) all (.cons true true ⟨some d,.load t x,ty,pos,af,gd⟩ rest) k L H :=
 C7 (U:=U) hd hx (fun w hw=>by rw[dJ (hw.tW hi),← dM];exact hv) ht hg h
def iH{t:TypeId}{bR:Ty}{b off:Nat}{cs:List Value}{w:World}(ht:U.get t=some bR)(hg:bR.isAgg=true)(hl:cs.length=bR.info.size)(hc:∀j v,cs[j]?=some v→w.cell? ⟨b,off+j,none⟩=some v) :
  (Instr.loadAt t (.pointer (some ⟨b,off,none⟩))).run P w = .ok (.agg cs.toArray) w:=by
 have h1:=run_loadCells_list (P:=P) w ⟨b,off,none⟩ cs (fun j v hj=>by
  have:=hc j v hj
  unfold Addr.add
  split
  ·rename_i h0;subst h0;simpa using this
  ·simpa using this)
 simp[Instr.loadAt,Instr.sureAddr,loadVar,qQ ht,hg,run_sizeOf ht,← hl,h1]
def Mj{t:TypeId}{x:Operand}{b off:Nat}{bR:Ty}{l:List Value}{e:TypeId}{cs:List Value}(i:Nat)(hd:Nat.blt d n=true)(hx:ev L x=some (.pointer (some ⟨b,off,none⟩)))(hi:cE H i=some (ae b (cl l e)))(ht:U.get t=some bR)(hg:bR.isAgg=true)(hv:pC l off bR.info.size [] = .mk cs)(h:J P f n R G S all rest k ((d,.agg cs.toArray)::L) H):J P f n R G S all (.cons false true ⟨some d,.load t x,ty,pos,af,gd⟩ rest) k L H :=
 kJ hd (fun a w ha hw=>by
  obtain⟨h1,h2⟩:=DB _ _ _ _ _ hv
  simp only[List.reverse_nil,List.nil_append]at h1
  have hc:∀j v,cs[j]?=some v→w.cell? ⟨b,off+j,none⟩=some v:=fun j v hj=>by
   rw[dJ (hw.tW hi)]
   rw[h1,List.getElem?_take]at hj
   split at hj
   ·simpa using hj
   ·cases hj
  have:=iH (P:=P) ht hg (by rw[h1];simp;omega) hc
  simp[execOp,ha.ev hx,this]) h
def gH{b:Nat}{e:TypeId}:∀(vs:List Value) (i off:Nat) (l:List Value) (w:World),w.heap[b]?=some (cl l e)→off+i+vs.length≤l.length→(∀v∈vs,v.oneCell'=true) →
  (storeCells ⟨b,off,none⟩ vs i).run P w = .ok () { w with heap:=w.heap.setIfInBounds b (cl (l.take (off+i)++vs++l.drop (off+i+vs.length)) e) }
 | [],i,off,l,w,hb,_,_=>by
  have:w.heap.setIfInBounds b (cl l e)=w.heap:=by
   have de:b<w.heap.size:=by
    rcases Nat.lt_or_ge b w.heap.size with h'|h'
    ·exact h'
    ·rw[Array.getElem?_eq_none h']at hb;cases hb
   have Lo:w.heap[b]=cl l e:=by rw[Array.getElem?_eq_getElem de]at hb;exact Option.some.inj hb
   rw[← Lo];simp[Array.setIfInBounds,de]
  simp[storeCells,this]
 | v::vs,i,off,l,w,hb,hl,gw=>by
  simp only[List.length_cons]at hl
  have yW:(⟨b,off,none⟩:Addr).add i=⟨b,off+i,none⟩:=by
   unfold Addr.add;split
   ·rename_i h0;subst h0;rfl
   ·rfl
  have dF:w.cell? ⟨b,off+i,none⟩=some (l[off+i]' ag):=by rw[dJ hb];simp
  have h1:(store ((⟨b,off,none⟩:Addr).add i) v).run P w = .ok () { w with heap:=w.heap.setIfInBounds b (cl (l.set (off+i) v) e) }:=by
   rw[yW,run_store P w _ v .plain (gw v (by simp))]
   simp only[dF,lB hb,Bool.false_eq_true,if_false,uX hb]
  have de:b<w.heap.size:=by
   rcases Nat.lt_or_ge b w.heap.size with h'|h'
   ·exact h'
   ·rw[Array.getElem?_eq_none h']at hb;cases hb
  have ih:=gH (b:=b) (e:=e) vs (i+1) off (l.set (off+i) v) { w with heap:=w.heap.setIfInBounds b (cl (l.set (off+i) v) e) } (by simp[de]) (by simp;omega) (fun u hu=>gw u (by simp[hu]))
  simp only[storeCells,Sem.run_bind,h1,Result.andThen_ok,ih]
  congr 1
  simp only[Array.setIfInBounds_setIfInBounds]
  congr 2
  have XL:off+i<l.length:=by omega
  rw[List.set_eq_take_append_cons_drop,if_pos XL]
  have e1:(List.take (off+i) l++v::List.drop (off+i+1) l).take (off+(i+1))=List.take (off+i) l++[v]:=by
   rw[show off+(i+1)=off+i+1 by omega,List.take_append]
   simp only[List.length_take]
   rw[show min (off+i) l.length=off+i by omega]
   simp[List.take_take,show off+i+1-(off+i)=1 by omega]
  have e2:(List.take (off+i) l++v::List.drop (off+i+1) l).drop (off+(i+1)+vs.length)=List.drop (off+i+(vs.length+1)) l:=by
   rw[List.drop_append]
   simp only[List.length_take]
   rw[show min (off+i) l.length=off+i by omega,List.drop_of_length_le (by simp;omega)]
   rw[show off+(i+1)+vs.length-(off+i)=vs.length+1 by omega]
   simp[show off+i+1+vs.length=off+i+(vs.length+1) by omega]
  rw[e1,e2]
  simp
def iN:List Value→Bool
 | []=>true
 | v::vs=>v.oneCell' && iN vs
def wh{vs:List Value}(h:iN vs=true):∀v∈vs,v.oneCell'=true:=by
 induction vs with
 | nil=>intro v hv;cases hv
 | cons u vs ih =>
  simp only[iN,Bool.and_eq_true]at h
  intro v hv
  rcases List.mem_cons.1 hv with rfl|hv
  ·exact h.1
  ·exact ih h.2 v hv
def vL{z r vs:List Value}{i:Nat}(h:nk [] i z vs = .mk r)(hv:vs≠[]):r=z.take i++vs++z.drop (i+vs.length)∧i+vs.length≤z.length:=by
 obtain⟨h1,h2,_⟩:=IM _ _ _ _ _ h
 exact⟨by simpa using h2 hv,by simpa[hv]using h1⟩
def eV{t:TypeId}{x y:Operand}{b off:Nat}{bR:Ty}{l l':List Value}{e:TypeId}{v:Value}(i:Nat)(hS:∀w,Sat G w H'→Sx rest S w)(hx:ev L x=some (.pointer (some ⟨b,off,none⟩)))(hy:ev L y=some v)(ht:U.get t=some bR)(iB:Nat.beq (bp v).length bR.info.size=true)(bY:Nat.beq (bp v).length 0=false)(gw:iN (bp v)=true)(hi:cE H i=some (ae b (cl l e)))(hl:nk [] off l (bp v) = .mk l')(hp:lH i (ae b (cl l' e)) H [] = .mk H')(h:J P f n R G S all rest k L H'):J P f n R G S all (.cons false true ⟨none,.store t x y,ty,pos,af,gd⟩ rest) k L H:=by
 refine Qd (fun H1=>H1=H') (fun a w ha hw=>?_) (fun H1 w e hw=>hS w (e ▸ hw)) (fun H1 e=>e ▸ h)
 have fT:bp v≠[]:=fun e=>by rw[e]at bY;cases bY
 obtain⟨h1,h2⟩:=vL hl fT
 have hr:=gH (P:=P) (bp v) 0 off l w (hw.tW hi) (by simpa using h2) (wh gw)
 simp only[Nat.add_zero,← h1]at hr
 refine⟨_,H',?_,rfl,hw.put hi hp⟩
 have Xn:v.cells.size=bR.info.size:=by rw[dQ];simpa using Nat.eq_of_beq_eq_true iB
 have lA:v.cells.toList=bp v:=by rw[dQ]
 simp only[execOp,ha.ev hx,ha.ev hy,Instr.storeAt,Instr.sureAddr,Sem.run_bind,Sem.run_pure,Result.andThen_ok,storeVar,run_sizeOf ht]
 rw[if_neg (by simp[Xn])]
 simp only[lA,hr,Result.andThen_ok]
def bG{elem:TypeId}{x:Operand}{v:Value}(hd:Nat.blt d n=true)(hx:ev L x=some v)(hS:∀b w,Sat G w (ae b (cl (bp v) elem)::H)→Sx rest S w)(h:∀b,J P f n R G S all rest k ((d,.pointer (some ⟨b,0,none⟩))::L) (ae b (cl (bp v) elem)::H)) :
  J P f n R G S all (.cons false true ⟨some d,.box elem x,ty,pos,af,gd⟩ rest) k L H:=by
 refine oz hd (fun u H1=>∃b,u = .pointer (some ⟨b,0,none⟩)∧H1=ae b (cl (bp v) elem)::H) (fun a w ha hw=>?_) ?_ ?_
 ·refine⟨_,_,_,?_,⟨w.heap.size,rfl,rfl⟩,hw.alloc _⟩
  simp[execOp,ha.ev hx,Instr.box,newVar,newRow,dQ,cl]
 ·rintro u H1 w⟨b,rfl,rfl⟩ hw;exact hS b w hw
 ·rintro u H1⟨b,rfl,rfl⟩;exact h b
def SE{elem:TypeId}{bR:Ty}{z:Value}(hd:Nat.blt d n=true)(ht:U.get elem=some bR)(hz:bR.info.zero=some z)(hS:∀b w,Sat G w (ae b (cl (bp z) elem)::H)→Sx rest S w)(h:∀b,J P f n R G S all rest k ((d,.pointer (some ⟨b,0,none⟩))::L) (ae b (cl (bp z) elem)::H)) :
  J P f n R G S all (.cons false true ⟨some d,.alloc elem,ty,pos,af,gd⟩ rest) k L H:=by
 refine oz hd (fun u H1=>∃b,u = .pointer (some ⟨b,0,none⟩)∧H1=ae b (cl (bp z) elem)::H) (fun a w ha hw=>?_) ?_ ?_
 ·refine⟨_,_,_,?_,⟨w.heap.size,rfl,rfl⟩,hw.alloc _⟩
  simp[execOp,Instr.alloc,dU ht hz,newVar,newRow,dQ,cl]
 ·rintro u H1 w⟨b,rfl,rfl⟩ hw;exact hS b w hw
 ·rintro u H1⟨b,rfl,rfl⟩;exact h b
def oy{t:TypeId}(hd:Nat.blt d n=true)(hS:∀b w,Sat G w (ae b (.map #[] 0)::H)→Sx rest S w)(h:∀b,J P f n R G S all rest k ((d,.map (some b))::L) (ae b (.map #[] 0)::H)) :
  J P f n R G S all (.cons false true ⟨some d,.makeMap t none,ty,pos,af,gd⟩ rest) k L H:=by
 refine oz hd (fun u H1=>∃b,u = .map (some b)∧H1=ae b (.map #[] 0)::H) (fun a w ha hw=>?_) ?_ ?_
 ·refine⟨_,_,_,?_,⟨w.heap.size,rfl,rfl⟩,hw.alloc _⟩
  simp[execOp,Instr.makeMap]
 ·rintro u H1 w⟨b,rfl,rfl⟩ hw;exact hS b w hw
 ·rintro u H1⟨b,rfl,rfl⟩;exact h b
def GN(z:List Value):Nat→List Value→List Value
 | 0,acc=>acc
 | i+1,acc=>GN z i (z++acc)
def vt(L:fJ)(size:Nat):List Value→List (Nat × Operand)→L8
 | z,[] => .mk z
 | z,(i,x)::ps=>match ev L x with
  | some v=>bif Nat.beq (bp v).length 0 then .no else bif Nat.beq (bp v).length size then
    (match nk [] (i*size) z (bp v)with
    | .mk z'=>vt L size z' ps
    | .no => .no)else .no
  | none => .no
def wg{a:Act}(ha:Has n L a)(size:Nat)(ps:List (Nat × Operand)):∀(z r:List Value),vt L size z ps = .mk r →
  Instr.fill (fun i=>some (i*size,size)) z.toArray (ps.map fun x=>(x.1,a.eval x.2))=some r.toArray:=by
 induction ps with
 | nil=>intro z r h;simp only[vt]at h;cases h;rfl
 | cons p ps ih =>
  obtain⟨i,x⟩:=p
  intro z r h
  simp only[vt]at h
  split at h
  ·rename_i u hu
   cases rj:Nat.beq (bp u).length 0 with
   | true=>simp[rj]at h
   | false =>
   simp only[rj,cond_false]at h
   cases hb:Nat.beq (bp u).length size with
   | false=>simp[hb]at h
   | true =>
    simp only[hb,cond_true]at h
    split at h
    ·rename_i z' Xf
     have hr:=ih z' r h
     simp only[List.map_cons,Instr.fill,ha.ev hu]
     have hlen:(bp u).length=size:=Nat.eq_of_beq_eq_true hb
     have he:bp u≠[]:=fun e=>by rw[e]at rj;cases rj
     obtain⟨h4,h1⟩:=vL Xf he
     have iB:u.cells.size=size:=by rw[dQ];simpa using hlen
     rw[if_neg (by simp[iB];rw[← hlen];rw[← hlen]at h1;exact h1)]
     have:=Bp (bp u) 0 (i*size) z.toArray (by simpa using h1)
     simp only[Nat.add_zero]at this
     have e:((bp u).toArray.zipIdx.foldl (fun cs (x:Value × Nat)=>cs.setIfInBounds (i*size+x.2) x.1) z.toArray)=z'.toArray:=by
      apply Array.ext'
      rw[this,h4]
     rw[dQ]
     rw[show((bp u).toArray.zipIdx.foldl (fun cs (x:Value × Nat)=>match x with|(c,j)=>cs.setIfInBounds (i*size+j) c) z.toArray)=z'.toArray from e]
     exact hr
    ·cases h
  ·cases h
def Aq{t elem:TypeId}{bR te:Ty}{z:Value}{len:Nat}{parts:Array (Nat × Operand)}{cs:List Value}(hd:Nat.blt d n=true)(ht:U.get t=some bR)(hu:bR.gA = .slice elem)(he:U.get elem=some te)(hz:te.info.zero=some z)(iB:Nat.beq (bp z).length te.info.size=true)(lu:Nat.blt 0 te.info.size=true)(OC:Nat.ble (len*te.info.size) 16777216=true)(hb:vt L te.info.size (GN (bp z) len []) parts.toList = .mk cs)(hS:∀b w,Sat G w (ae b (cl cs elem)::H)→Sx rest S w)(h:∀b,J P f n R G S all rest k ((d,.slice (some ⟨b,0,none⟩) len len)::L) (ae b (cl cs elem)::H)) :
  J P f n R G S all (.cons false true ⟨some d,.buildSlice t len parts,ty,pos,af,gd⟩ rest) k L H:=by
 have Xn:(bp z).length=te.info.size:=Nat.eq_of_beq_eq_true iB
 have abf:0<te.info.size:=by simpa[Nat.blt_eq]using lu
 have Xv:∀(i:Nat) (acc:List Value),GN (bp z) i acc=(List.replicate i (bp z)).flatten++acc:=by
  intro i
  induction i with
  | zero=>intro acc;simp[GN]
  | succ i ih =>
   intro acc
   rw[GN,ih]
   rw[List.replicate_succ']
   simp
 have adD:((Array.range (len*te.info.size)).map fun i=>z.cells[i%z.cells.size]!)=(GN (bp z) len []).toArray:=by
  apply Array.ext'
  rw[Xv]
  simp only[Array.toList_map,Array.toList_range,List.append_nil]
  have j7:z.cells.size=te.info.size:=by rw[dQ];simpa using Xn
  rw[j7]
  clear OC hb h hS
  induction len with
  | zero=>simp
  | succ len ih =>
   rw[List.replicate_succ',List.flatten_append,← ih]
   rw[Nat.succ_mul,List.range_add,List.map_append]
   congr 1
   simp only[List.map_map,List.flatten_cons,List.flatten_nil,List.append_nil]
   apply List.ext_getElem?
   intro j
   by_cases hj:j<te.info.size
   ·simp only[List.getElem?_map,List.getElem?_range hj,Option.map_some,Function.comp]
    rw[Nat.mul_comm,Nat.mul_add_mod,Nat.mod_eq_of_lt hj]
    rw[dQ]
    have:j<(bp z).length:=by omega
    simp[this]
   ·rw[List.getElem?_eq_none (by simp;omega),List.getElem?_eq_none ag]
 refine oz hd (fun u H1=>∃b,u = .slice (some ⟨b,0,none⟩) len len∧H1=ae b (cl cs elem)::H) (fun a w ha hw=>?_) ?_ ?_
 ·refine⟨_,_,_,?_,⟨w.heap.size,rfl,rfl⟩,hw.alloc _⟩
  have hf:=wg ha _ _ _ _ hb
  have hle:¬len*te.info.size>2 ^ 24:=by have:=Nat.le_of_ble_eq_true OC;omega
  simp only[execOp,Instr.buildSlice,Sem.run_bind,run_underlying ht,Result.andThen_ok,hu,run_sizeOf he,if_neg hle,Sem.run_pure]
  by_cases h0:len*te.info.size=0
  ·have OT:len=0:=by
    rcases Nat.eq_zero_or_pos len with h|h
    ·exact h
    ·exact absurd h0 (Nat.ne_of_gt (Nat.mul_pos h abf))
   subst OT
   have hf0:Instr.fill (fun i=>some (i*te.info.size,te.info.size)) #[] (parts.toList.map fun x=>(x.1,a.eval x.2))=some cs.toArray:=by simpa[GN]using hf
   have zY:((Array.range 0).map fun i=>(#[]:Array Value)[i%(#[]:Array Value).size]!) = #[]:=by simp
   simp only[Nat.zero_mul,if_true,pure_bind,zY,Array.toList_map]
   rw[show(List.map (fun x:Nat × Operand=>match x with|(i,x)=>(i,a.eval x)) parts.toList)=parts.toList.map (fun x=>(x.1,a.eval x.2))from rfl,hf0]
   simp[newRow,cl]
  ·simp only[if_neg h0,Sem.run_bind,dU he hz,Sem.run_pure,Result.andThen_ok,adD,Array.toList_map]
   rw[show(List.map (fun x:Nat × Operand=>match x with|(i,x)=>(i,a.eval x)) parts.toList)=parts.toList.map (fun x=>(x.1,a.eval x.2))from rfl,hf]
   simp[newRow,cl]
 ·rintro u H1 w⟨b,rfl,rfl⟩ hw;exact hS b w hw
 ·rintro u H1⟨b,rfl,rfl⟩;exact h b
def JR{o:Oper}(h:J P f n R G S all (.cons m false o rest) k L H):J P f n R G S all (.cons m false o rest) k L H:=h
def uy{c x y:Operand}(h:J P f n R G S all (.cons m true ⟨some d,.pick c x y,ty,pos,af,gd⟩ rest) k L H):J P f n R G S all (.cons m true ⟨some d,.pick c x y,ty,pos,af,gd⟩ rest) k L H:=h
def lO{op:BinOp}{t t':TypeId}{x y:Operand}(h:J P f n R G S all (.cons m true ⟨some d,.binOp op t x y t',ty,pos,af,gd⟩ rest) k L H):J P f n R G S all (.cons m true ⟨some d,.binOp op t x y t',ty,pos,af,gd⟩ rest) k L H:=h
def aK{t:TypeId}{x:Operand}(h:J P f n R G S all (.cons m true ⟨some d,.load t x,ty,pos,af,gd⟩ rest) k L H):J P f n R G S all (.cons m true ⟨some d,.load t x,ty,pos,af,gd⟩ rest) k L H:=h
def aT{t:TypeId}{x y:Operand}(h:J P f n R G S all (.cons m true ⟨none,.store t x y,ty,pos,af,gd⟩ rest) k L H):J P f n R G S all (.cons m true ⟨none,.store t x y,ty,pos,af,gd⟩ rest) k L H:=h
def ez{t t':TypeId}{x:Operand}(h:J P f n R G S all (.cons m true ⟨some d,.convert t t' x,ty,pos,af,gd⟩ rest) k L H):J P f n R G S all (.cons m true ⟨some d,.convert t t' x,ty,pos,af,gd⟩ rest) k L H:=h
def uA{o:Oper}{j t:Nat}{oj:Oper}{b:Bool}(hg:o.guard=some (j,b))(hj:cE all.toList j=some oj)(ht:oj.dst=some t)(hb:ej L t=some (.bool b))(h:J P f n R G S all (.cons m true o rest) k L H):J P f n R G S all (.cons m false o rest) k L H:=by
 intro a w ha hw hS
 have h1:=h a w ha hw (Sx.of hS)
 have rf:all[j]?=some oj:=by rw[dM]at hj;simpa using hj
 have mO:Region.wanted o (yielded all a.tmps)=true:=by
  simp only[Region.wanted,hg,yielded,rf,Option.bind_some,ht,ha.get hb]
  simp
 rcases h1 with⟨_,h1⟩|⟨hf,_⟩
 ·exact .inl ⟨.inr mO,h1⟩
 ·cases hf
def uB{o:Oper}{j t:Nat}{oj:Oper}{b c:Bool}(hd:o.dst=some d)(yQ:Nat.blt d n=true)(hg:o.guard=some (j,b))(hj:cE all.toList j=some oj)(ht:oj.dst=some t)(hb:ej L t=some (.bool c))(MK:(c == b)=false)(h:J P f n R G S all rest k ((d,undef)::L) H):J P f n R G S all (.cons m false o rest) k L H:=by
 intro a w ha hw hS
 have rf:all[j]?=some oj:=by rw[dM]at hj;simpa using hj
 have mO:Region.wanted o (yielded all a.tmps)=false:=by
  simp only[Region.wanted,hg,yielded,rf,Option.bind_some,ht,ha.get hb]
  simpa using MK
 exact .inr ⟨rfl,mO,by rw[hd];exact h _ w (ha.put yQ undef) hw (Sx.of hS)⟩
def rA{o:Oper}{j t:Nat}{oj:Oper}{b c:Bool}(hd:o.dst=none)(hg:o.guard=some (j,b))(hj:cE all.toList j=some oj)(ht:oj.dst=some t)(hb:ej L t=some (.bool c))(MK:(c == b)=false)(h:J P f n R G S all rest k L H):J P f n R G S all (.cons m false o rest) k L H:=by
 intro a w ha hw hS
 have rf:all[j]?=some oj:=by rw[dM]at hj;simpa using hj
 have mO:Region.wanted o (yielded all a.tmps)=false:=by
  simp only[Region.wanted,hg,yielded,rf,Option.bind_some,ht,ha.get hb]
  simpa using MK
 exact .inr ⟨rfl,mO,by rw[hd];exact h a w ha hw (Sx.of hS)⟩
def uz{o:Oper}{j t:Nat}{oj:Oper}{b:Bool}(hd:o.dst=some d)(yQ:Nat.blt d n=true)(hg:o.guard=some (j,b))(hj:cE all.toList j=some oj)(ht:oj.dst=some t)(hb:ej L t=some undef)(h:J P f n R G S all rest k ((d,undef)::L) H):J P f n R G S all (.cons m false o rest) k L H:=by
 intro a w ha hw hS
 have rf:all[j]?=some oj:=by rw[dM]at hj;simpa using hj
 have mO:Region.wanted o (yielded all a.tmps)=false:=by
  simp only[Region.wanted,hg,yielded,rf,Option.bind_some,ht,ha.get hb,undef]
  rfl
 exact .inr ⟨rfl,mO,by rw[hd];exact h _ w (ha.put yQ undef) hw (Sx.of hS)⟩
def xx{c x y:Operand}{v:Value}(hd:Nat.blt d n=true)(hc:ev L c=some (.bool true))(hx:ev L x=some v)(h:J P f n R G S all rest k ((d,v)::L) H):J P f n R G S all (.cons m true ⟨some d,.pick c x y,ty,pos,af,gd⟩ rest) k L H :=
 dA hd (fun a ha w=>by simp[execOp,ha.ev hc,ha.ev hx,asBool]) h
def xy{c x y:Operand}{v:Value}(hd:Nat.blt d n=true)(hc:ev L c=some (.bool false))(hy:ev L y=some v)(h:J P f n R G S all rest k ((d,v)::L) H):J P f n R G S all (.cons m true ⟨some d,.pick c x y,ty,pos,af,gd⟩ rest) k L H :=
 dA hd (fun a ha w=>by simp[execOp,ha.ev hc,ha.ev hy,asBool]) h
def SA(t:Nat){b:Bool}(hb:ej L t=some (.bool b))(ht:b=true→J P f n R G S all rest k ((t,.bool true)::L) H)(hf:b=false→J P f n R G S all rest k ((t,.bool false)::L) H) :
  J P f n R G S all rest k L H:=by
 have hs:∀c:Bool,b=c→∀s v,ej ((t,.bool c)::L) s=some v→ej L s=some v:=by
  rintro c rfl s v e
  simp only[ej]at e
  cases cK:Nat.beq t s with
  | true=>simp only[cK,cond_true]at e;rw[← Nat.eq_of_beq_eq_true cK,hb];exact e
  | false=>simpa only[cK,cond_false]using e
 cases b with
 | true=>exact P5 (hs true rfl) (ht rfl)
 | false=>exact P5 (hs false rfl) (hf rfl)
def P6(t:Nat){p:Prop}[Decidable p](hb:ej L t=some (.bool (decide p)))(ht:p→J P f n R G S all rest k ((t,.bool true)::L) H)(hf:¬p→J P f n R G S all rest k ((t,.bool false)::L) H) :
  J P f n R G S all rest k L H:=SA t hb (fun h=>ht (of_decide_eq_true h)) (fun h=>hf (of_decide_eq_false h))
def ie{o:Oper}{j t:Nat}{oj:Oper}{p:Prop}[Decidable p]{b:Bool}(hg:o.guard=some (j,b))(hj:cE all.toList j=some oj)(ht:oj.dst=some t)(hb:ej L t=some (.bool (decide p)))(h1:p→J P f n R G S all (.cons m false o rest) k ((t,.bool true)::L) H)(h2:¬p→J P f n R G S all (.cons m false o rest) k ((t,.bool false)::L) H):J P f n R G S all (.cons m false o rest) k L H:=P6 t hb h1 h2
def au(t:Nat){u:Value}(v:Value)(hb:ej L t=some u)(huv:u=v)(h:J P f n R G S all rest k ((t,v)::L) H):J P f n R G S all rest k L H:=by
 subst huv
 refine P5 (fun s x e=>?_) h
 simp only[ej]at e
 cases cK:Nat.beq t s with
 | true=>simp only[cK,cond_true]at e;rw[← Nat.eq_of_beq_eq_true cK,hb];exact e
 | false=>simpa only[cK,cond_false]using e
def aX(t:Nat){u:Value}(v:Value)(hb:ej L t=some u)(huv:u=v)(h:K P f n R G k ((t,v)::L) H):K P f n R G k L H:=by
 subst huv
 refine JP (fun s x e=>?_) h
 simp only[ej]at e
 cases cK:Nat.beq t s with
 | true=>simp only[cK,cond_true]at e;rw[← Nat.eq_of_beq_eq_true cK,hb];exact e
 | false=>simpa only[cK,cond_false]using e
def gq:IntKind→Int→Prop
 | .i8,x => -128≤x∧x≤127
 | .i16,x => -32768≤x∧x≤32767
 | .i32,x => -2147483648≤x∧x≤2147483647
 | .i64,x => -9223372036854775808≤x∧x≤9223372036854775807
 | .u8,x=>0≤x∧x≤255
 | .u16,x=>0≤x∧x≤65535
 | .u32,x=>0≤x∧x≤4294967295
 | .u64,x=>0≤x∧x≤18446744073709551615
def cS{j:IntKind}{x:Int}(h:gq j x):j.wrap x=x:=by
 cases j <;> simp only[gq]at h <;> simp[IntKind.wrap,IntKind.bits,IntKind.signed] <;> (try split) <;> omega
def JW{t yt:TypeId}{x y:Operand}{j:IntKind}{p q:Int}(hd:Nat.blt d n=true)(hx:ev L x=some (.int j p))(hy:ev L y=some (.int j q))(hr:gq j (p+q))(h:J P f n R G S all rest k ((d,.int j (p+q))::L) H):J P f n R G S all (.cons m true ⟨some d,.binOp .add t x y yt,ty,pos,af,gd⟩ rest) k L H :=
 dA hd (fun a ha w=>by simp[execOp,ha.ev hx,ha.ev hy,eqGuard,binOp,Op.intArith,cS hr]) h
def C4{t yt:TypeId}{x y:Operand}{j:IntKind}{p q:Int}(hd:Nat.blt d n=true)(hx:ev L x=some (.int j p))(hy:ev L y=some (.int j q))(hr:gq j (p-q))(h:J P f n R G S all rest k ((d,.int j (p-q))::L) H):J P f n R G S all (.cons m true ⟨some d,.binOp .sub t x y yt,ty,pos,af,gd⟩ rest) k L H :=
 dA hd (fun a ha w=>by simp[execOp,ha.ev hx,ha.ev hy,eqGuard,binOp,Op.intArith,cS hr]) h
def ib{t yt:TypeId}{x y:Operand}{j:IntKind}{p q:Int}(hd:Nat.blt d n=true)(hx:ev L x=some (.int j p))(hy:ev L y=some (.int j q))(hr:gq j (p*q))(h:J P f n R G S all rest k ((d,.int j (p*q))::L) H):J P f n R G S all (.cons m true ⟨some d,.binOp .mul t x y yt,ty,pos,af,gd⟩ rest) k L H :=
 dA hd (fun a ha w=>by simp[execOp,ha.ev hx,ha.ev hy,eqGuard,binOp,Op.intArith,cS hr]) h
def Qc{t yt:TypeId}{x y:Operand}{j:IntKind}{p q:Int}(hd:Nat.blt d n=true)(hx:ev L x=some (.int j p))(hy:ev L y=some (.int j q))(h:J P f n R G S all rest k ((d,.int j (j.wrap (p+q)))::L) H):J P f n R G S all (.cons m true ⟨some d,.binOp .add t x y yt,ty,pos,af,gd⟩ rest) k L H :=
 dA hd (fun a ha w=>by simp[execOp,ha.ev hx,ha.ev hy,eqGuard,binOp,Op.intArith]) h
def YR{t yt:TypeId}{x y:Operand}{j:IntKind}{p q:Int}(hd:Nat.blt d n=true)(hx:ev L x=some (.int j p))(hy:ev L y=some (.int j q))(h:J P f n R G S all rest k ((d,.int j (j.wrap (p*q)))::L) H):J P f n R G S all (.cons m true ⟨some d,.binOp .mul t x y yt,ty,pos,af,gd⟩ rest) k L H :=
 dA hd (fun a ha w=>by simp[execOp,ha.ev hx,ha.ev hy,eqGuard,binOp,Op.intArith]) h
def mI{t yt:TypeId}{x y:Operand}{j:IntKind}{p q:Int}(hd:Nat.blt d n=true)(hx:ev L x=some (.int j p))(hy:ev L y=some (.int j q))(hp:0≤p)(hq:0<q)(h:J P f n R G S all rest k ((d,.int j (p%q))::L) H):J P f n R G S all (.cons m true ⟨some d,.binOp .rem t x y yt,ty,pos,af,gd⟩ rest) k L H :=
 dA hd (fun a ha w=>by
  have h0:¬q=0:=by omega
  simp[execOp,ha.ev hx,ha.ev hy,eqGuard,binOp,Op.intDiv,h0,Int.tmod_eq_emod_of_nonneg hp]) h
def lj{t yt:TypeId}{x y:Operand}{j:IntKind}{p q:Int}(hd:Nat.blt d n=true)(hx:ev L x=some (.int j p))(hy:ev L y=some (.int j q))(hp:0≤p)(hq:0<q)(hr:gq j (p/q))(h:J P f n R G S all rest k ((d,.int j (p/q))::L) H):J P f n R G S all (.cons m true ⟨some d,.binOp .quo t x y yt,ty,pos,af,gd⟩ rest) k L H :=
 dA hd (fun a ha w=>by
  have h0:¬q=0:=by omega
  simp[execOp,ha.ev hx,ha.ev hy,eqGuard,binOp,Op.intDiv,h0,Int.tdiv_eq_ediv_of_nonneg hp,cS hr]) h
def jl{t yt:TypeId}{x y:Operand}{j j':IntKind}{p q:Int}(hd:Nat.blt d n=true)(hx:ev L x=some (.int j p))(hy:ev L y=some (.int j' q))(hq:0≤q)(h:J P f n R G S all rest k ((d,.int j (p/2 ^ (min q.toNat j.bits)))::L) H):J P f n R G S all (.cons m true ⟨some d,.binOp .shr t x y yt,ty,pos,af,gd⟩ rest) k L H :=
 dA hd (fun a ha w=>by
  have h0:¬q<0:=by omega
  have lu:(0:Int)≤2 ^ (min q.toNat j.bits):=Int.le_of_lt (Int.pow_pos ag)
  simp[execOp,ha.ev hx,ha.ev hy,eqGuard,binOp,Op.shift,h0,Int.fdiv_eq_ediv_of_nonneg p lu]) h
def nB{t yt:TypeId}{x y:Operand}{j j':IntKind}{p q:Int}(hd:Nat.blt d n=true)(hx:ev L x=some (.int j p))(hy:ev L y=some (.int j' q))(hq:0≤q)(h:J P f n R G S all rest k ((d,.int j (j.wrap (p*2 ^ (min q.toNat j.bits))))::L) H):J P f n R G S all (.cons m true ⟨some d,.binOp .shl t x y yt,ty,pos,af,gd⟩ rest) k L H :=
 dA hd (fun a ha w=>by
  have h0:¬q<0:=by omega
  simp[execOp,ha.ev hx,ha.ev hy,eqGuard,binOp,Op.shift,h0]) h
def zO{src dst:TypeId}{ts td:Ty}{x:Operand}{j j' jd:IntKind}{p:Int}(hd:Nat.blt d n=true)(hx:ev L x=some (.int j p))(hs:U.get src=some ts)(ED:ts.gA = .int j')(EX:U.get dst=some td)(EW:td.gA = .int jd)(hr:gq jd p)(h:J P f n R G S all rest k ((d,.int jd p)::L) H):J P f n R G S all (.cons m true ⟨some d,.convert src dst x,ty,pos,af,gd⟩ rest) k L H :=
 dA hd (fun a ha w=>by simp[execOp,ha.ev hx,convert,run_underlying hs,run_underlying EX,ED,EW,Conv.intToInt,cS hr]) h
def JU{src dst:TypeId}{ts td:Ty}{x:Operand}{j j' jd:IntKind}{p:Int}(hd:Nat.blt d n=true)(hx:ev L x=some (.int j p))(hs:U.get src=some ts)(ED:ts.gA = .int j')(EX:U.get dst=some td)(EW:td.gA = .int jd)(h:J P f n R G S all rest k ((d,.int jd (jd.wrap p))::L) H):J P f n R G S all (.cons m true ⟨some d,.convert src dst x,ty,pos,af,gd⟩ rest) k L H :=
 dA hd (fun a ha w=>by simp[execOp,ha.ev hx,convert,run_underlying hs,run_underlying EX,ED,EW,Conv.intToInt]) h
def lG{g:FuncId}{vs:Array Value}{w:World}(h:P.funcs[g]?.map mz=some true):(callFunc g vs).run P w = .ok (.enter g vs) w:=by
 cases hf:P.funcs[g]? with
 | none=>rw[hf]at h;cases h
 | some fn =>
  rw[hf]at h
  simp only[Option.map_some,Option.some.injEq,mz,Bool.and_eq_true,Bool.not_eq_true']at h
  have h1:fn.body.isNone=false:=by cases hb:fn.body <;> simp_all
  simp only[callFunc,Sem.run_bind,run_program,Result.andThen_ok,hf,h.2,h1,Bool.false_eq_true,if_false,Sem.run_pure]
def cF{fo:Operand}{args:Array Operand}{xJ:Array TypeId}{g:FuncId}{cap:Array Value}{vs:List Value}{Pre Fr:List HP}{Post:Value→List HP→Prop}(is:List Nat)(hd:Nat.blt d n=true)(hf:ev L fo=some (.func (.func g) #[] cap))(gT:Gg L args.toList [] = .mk vs){as:List Value}(has:as=vs++cap.toList)(c:aE P g as Pre Post)(hp:tG is [] H [] = .mk Pre Fr)(hS:∀v H' w,Post v H'→Sat G w (H'++Fr)→Sx rest S w)(h:∀v H',Post v H'→J P f n R G S all rest k ((d,v)::L) (H'++Fr)) :
  J P f n R G S all (.cons false true ⟨some d,.call { callee := .value fo,args:=args,argTypes:=xJ },ty,pos,af,gd⟩ rest) k L H:=by
 intro a w ha hw _
 refine .inl ⟨.inl rfl,.inr ⟨rfl,?_⟩⟩
 have hr:(execOp a.eval ⟨some d,.call { callee := .value fo,args:=args,argTypes:=xJ },ty,pos,af,gd⟩).run P w = .ok (.enter g as.toArray) w:=by
  simp only[execOp,resolve,Sem.run_bind,ha.ev hf,Deferred.ofValue,Sem.run_pure,Result.andThen_ok,invoke]
  rw[lG c.1,nf ha.1 _ _ gT,has]
  congr 2
  simp
 refine uN (fun c hc=>by cases hc) hr (Calls.mono (c.2 G w Fr (hw.pick is hp)) ?_)
 rintro e w'⟨v,H',rfl,fG,mO⟩
 exact⟨v,rfl,hS v H' w' fG mO,h v H' fG _ w' (ha.put hd v) mO (hS v H' w' fG mO)⟩
end
end Go.SL
namespace Go.SL
def Vw.oT(e:TypeId)(size:Nat)(v:Value)(n:Nat)(cs:List Value)(h0:∃h,aB e size v n cs h):Vw (aB e size v n cs) v n cs:=by
 obtain⟨h,hl,⟨a,rfl,rfl,_⟩|⟨b,o,cap,pre,bT,rfl,hp,hn,hc,_⟩⟩:=h0
 ·exact⟨a,0,rfl,.inl (List.eq_nil_of_length_eq_zero (by simpa using hl))⟩
 ·refine⟨_,cap,rfl,.inr ⟨b,o,rfl,fun h hA j c hj=>?_⟩⟩
  obtain⟨_,⟨a,hv,_,_⟩|⟨b',o',gM,aaV,rT,hv,tk,_,_,RB⟩⟩:=hA
  ·simp only[Value.slice.injEq]at hv
   obtain⟨_,rfl,rfl⟩:=hv
   have:cs=[]:=List.eq_nil_of_length_eq_zero (by simpa using hl)
   subst this;simp at hj
  ·simp only[Value.slice.injEq,Option.some.injEq,Addr.mk.injEq,and_true,true_and]at hv
   obtain⟨⟨rfl,rfl⟩,rfl⟩:=hv
   unfold dF
   rw[RB b,if_pos rfl]
   simp only[cl]
   rw[← tk]
   have de:j<cs.length:=by
    rcases Nat.lt_or_ge j cs.length with h|h
    ·exact h
    ·rw[List.getElem?_eq_none h]at hj;cases hj
   rw[List.getElem?_toArray,List.append_assoc,List.getElem?_append_right ag,show aaV.length+j-aaV.length=j by omega,List.getElem?_append_left de]
   exact hj
def Vw.ae{b:Nat}{l:List Value}{e:TypeId}{o n cap:Nat}{cs:List Value}(h:(l.drop o).take cs.length=cs):Vw (ae b (cl l e)) (.slice (some ⟨b,o,none⟩) n cap) n cs:=by
 refine⟨_,cap,rfl,.inr ⟨b,o,rfl,fun h' hA j c hj=>?_⟩⟩
 unfold dF
 rw[hA b,if_pos rfl]
 simp only[cl]
 rw[← h,List.getElem?_take]at hj
 split at hj
 ·simpa using hj
 ·cases hj
def Vw.nil(A:HP)(a:Option Addr)(cap:Nat):Vw A (.slice a 0 cap) 0 []:=⟨a,cap,rfl,.inl rfl⟩
def Vw.mono{A B:HP}{v:Value}{n:Nat}{cs:List Value}(h:Vw A v n cs)(Yi:∀h,B h→∃h',sub h' h∧A h'):Vw B v n cs:=by
 obtain⟨a,cap,hv,h0|⟨b,o,ha,hc⟩⟩:=h
 ·exact⟨a,cap,hv,.inl h0⟩
 ·refine⟨a,cap,hv,.inr ⟨b,o,ha,fun h hB j c hj=>?_⟩⟩
  obtain⟨h',hs,hA⟩:=Yi h hB
  have:=hc h' hA j c hj
  unfold dF at this ⊢
  split at this
  ·rename_i x y z hb;rw[hs b _ hb];exact this
  ·cases this
def Vw.cells{A:HP}{v:Value}{n:Nat}{cs:List Value}(h:Vw A v n cs){G:cJ}{w:World}{H:List HP}(hw:Sat G w H){i:Nat}(hi:cE H i=some A) :
  ∃a cap,v = .slice a n cap∧(cs=[]∨∃b o,a=some ⟨b,o,none⟩∧∀j c,cs[j]?=some c→w.cell? ⟨b,o+j,none⟩=some c):=by
 obtain⟨a,cap,hv,h0|⟨b,o,ha,hc⟩⟩:=h
 ·exact⟨a,cap,hv,.inl h0⟩
 ·obtain⟨h,hh,hA⟩:=hw.lf hi
  exact⟨a,cap,hv,.inr ⟨b,o,ha,fun j c hj=>dW hh (hc h hA j c hj)⟩⟩
def Addr.add_eq(b o i:Nat):(⟨b,o,none⟩:Addr).add i=⟨b,o+i,none⟩:=by
 unfold Addr.add;split
 ·rename_i h;subst h;rfl
 ·rfl
section
variable{P:Program}{U:Tr}[hU:fX P U]{f:FuncId}{n:Nat}{R:Ending→World→Prop}{G:cJ}{k:List Item}{L:fJ}{H H':List HP}{S:World→Prop}{all:Array Oper}{rest:Pl}{ty:TypeId}{pos:String}{af:Array Edge}{gd:Option (Nat × Bool)}{m:Bool}{d:Tmp}
def nI{A:HP}{v:Value}{nn size:Nat}{cs:List Value}{w:World}{i:Nat}(hv:Vw A v nn cs)(hw:Sat G w H)(hi:cE H i=some A)(hl:cs.length=nn*size) :
  (Builtin.firstCells size nn v).run P w = .ok cs.toArray w:=by
 obtain⟨a,cap,rfl,h0|⟨b,o,rfl,hc⟩⟩:=hv.cells hw hi
 ·subst h0
  have h0:nn*size=0:=by simpa using hl.symm
  cases a with
  | none=>simp[Builtin.firstCells]
  | some a=>simp[Builtin.firstCells,h0,loadCells,loadCellsFrom]
 ·have:=run_loadCells_list (P:=P) w ⟨b,o,none⟩ cs (fun j c hj=>by rw[Addr.add_eq];exact hc j c hj)
  rw[hl]at this
  simp[Builtin.firstCells,this]
def x8{A:HP}{v:Value}{nn size q:Nat}{cs:List Value}{w:World}{i:Nat}(hv:Vw A v nn cs)(hw:Sat G w H)(hi:cE H i=some A)(hl:cs.length=nn*size)(hq:q≤nn) :
  (Builtin.firstCells size q v).run P w = .ok (cs.take (q*size)).toArray w:=by
 obtain⟨a,cap,rfl,h0|⟨b,o,rfl,hc⟩⟩:=hv.cells hw hi
 ·subst h0
  have h0:nn*size=0:=by simpa using hl.symm
  have h1:q*size=0:=by have:=Nat.mul_le_mul_right size hq;omega
  cases a with
  | none=>simp[Builtin.firstCells]
  | some a=>simp[Builtin.firstCells,h1,loadCells,loadCellsFrom]
 ·have h2:(cs.take (q*size)).length=q*size:=by rw[List.length_take,hl];exact Nat.min_eq_left (Nat.mul_le_mul_right size hq)
  have:=run_loadCells_list (P:=P) w ⟨b,o,none⟩ (cs.take (q*size)) (fun j c hj=>by
   rw[Addr.add_eq]
   rw[List.getElem?_take]at hj
   split at hj
   ·exact hc j c hj
   ·cases hj)
  rw[h2]at this
  simp[Builtin.firstCells,this]
def QV(e:TypeId)(size:Nat)(a:Option Addr):∀h,emp h→aB e size (.slice a 0 0) 0 [] h:=fun h he=>⟨by simp,.inl ⟨a,rfl,rfl,he⟩⟩
def uS(pre cs bT news:List Value)(o:Nat)(ho:pre.length=o) :
  (pre++cs++bT).take (o+cs.length)++news++(pre++cs++bT).drop (o+cs.length+news.length)=pre++(cs++news)++bT.drop news.length:=by
 subst ho
 have h1:(pre++cs++bT).take (pre.length+cs.length)=pre++cs:=by
  rw[show pre.length+cs.length=(pre++cs).length by simp];exact List.take_left
 have h2:(pre++cs++bT).drop (pre.length+cs.length+news.length)=bT.drop news.length:=by
  rw[show pre.length+cs.length=(pre++cs).length by simp];rw[List.drop_append];simp
 rw[h1,h2];simp
def GJ{t t2 elem:TypeId}{bR F8 te:Ty}{z v v2:Value}{nn mm:Nat}{cs news:List Value}{A:HP}{rty:TypeId}{w:World}(i j:Nat)(ht:U.get t=some bR)(hu:bR.gA = .slice elem)(h2:U.get t2=some F8)(R5:∀q,F8.gA ≠ .int q)(he:U.get elem=some te)(hz:te.info.zero=some z)(MD:(bp z).length=te.info.size)(hw:Sat G w H)(hi:cE H i=some (aB elem te.info.size v nn cs))(hj:cE H j=some A)(rW:Vw A v2 mm news)(rI:news.length=mm*te.info.size)(gw:∀u∈news,u.oneCell'=true)(K9:nn+mm≤9223372036854775807)(qo:(nn+mm)*te.info.bytes≤140737488355328) :
    ∃v' w',(Builtin.append_ #[t,t2] rty #[v,v2]).run P w = .ok v' w'∧(∀H',lH i (aB elem te.info.size v' (nn+mm) (cs++news)) H [] = .mk H'→Sat G w' H'):=by
  have OI:∀B H',lH i B H [] = .mk H'→H'.Perm (B::H.eraseIdx i):=fun B H' hp=>by simpa using oQ i _ _ H [] H' hp hi
  have adb:∃h,aB elem te.info.size v nn cs h:=by obtain⟨h,_,hA⟩:=hw.lf hi;exact⟨h,hA⟩
  have dE:=Vw.oT _ _ _ _ _ adb
  have Cr:=nI (P:=P) rW hw hj rI
  obtain⟨a2,c2,acZ,_⟩:=rW
  subst acZ
  have OD:=hw.cV (al.perm (dj (by rw[← dM];exact hi)))
  obtain⟨hT,hO,RY,hh,eF,h1,h2h,sP,hB2,abR,OW⟩:=OD
  obtain⟨hl,iL⟩:=sP
  have vb:∀ {w:World},(underlying t2).run P w = .ok F8.gA w:=fun {w}=>run_underlying h2 w
  have Y':(F8.gA matches .int _)=false:=by
    cases hq:F8.gA <;> first|rfl|exact absurd hq (R5 _)
  have acy:=nI (P:=P) dE hw hi hl
  by_cases qk:∃a cap,v = .slice a nn cap∧nn+mm≤cap
  · obtain⟨a,cap,rfl,qk⟩:=qk
    rcases iL with⟨a',hv,RH,ET⟩|⟨b,o,gM,pre,bT,hv,hp,hn,hc,RB⟩
    · simp only[Value.slice.injEq]at hv
      obtain⟨rfl,rfl,rfl⟩:=hv
      have zY:mm=0:=by omega
      subst zY
      have j7:cs=[]:=List.eq_nil_of_length_eq_zero (by simpa using hl)
      have abm:news=[]:=List.eq_nil_of_length_eq_zero (by simpa using rI)
      subst j7;subst abm
      refine⟨.slice a 0 0,w,?_,fun H' hp=>?_⟩
      · cases a with
        | none=>simp[Builtin.append_,run_underlying ht,hu,run_sizeOf he,vb,Y',Builtin.lenOf,Cr]
        | some a=>simp[Builtin.append_,run_underlying ht,hu,run_sizeOf he,vb,Y',Builtin.lenOf,Cr,storeCells]
      · refine(show Sat G w (aB elem te.info.size (.slice a 0 0) 0 []::H.eraseIdx i)from ?_).cV (al.perm (OI _ _ hp).symm)
        exact⟨hT,hO,RY,hh,eF,h1,h2h,⟨hl,.inl ⟨a,rfl,rfl,ET⟩⟩,hB2,abR,OW⟩
    · simp only[Value.slice.injEq]at hv
      obtain⟨rfl,_,rfl⟩:=hv
      have yN:news.length≤bT.length:=by
        have h3:(nn+mm)*te.info.size≤cap*te.info.size:=Nat.mul_le_mul_right _ qk
        rw[Nat.add_mul,← hl,← rI]at h3
        omega
      have hb:w.heap[b]?=some (cl (pre++cs++bT) elem):=by
        refine eF b _ ?_
        rw[OW b,RB b];simp
      have cK:=gH (P:=P) news 0 (o+nn*te.info.size) (pre++cs++bT) w hb (by simp;omega) gw
      simp only[Nat.add_zero]at cK
      rw[← hl,uS pre cs bT news o hp]at cK
      refine⟨.slice (some ⟨b,o,none⟩) (nn+mm) cap,{ w with heap:=w.heap.setIfInBounds b (cl (pre++(cs++news)++bT.drop news.length) elem) },?_,fun H' tk=>?_⟩
      · rw[hl]at cK
        simp[Builtin.append_,run_underlying ht,hu,run_sizeOf he,vb,Y',Builtin.lenOf,qk,Cr,Addr.add_eq,cK]
      · have h4:=Sat.BW (o':=cl (pre++(cs++news)++bT.drop news.length) elem) (show Sat G w (ae b (cl (pre++cs++bT) elem)::H.eraseIdx i)from⟨hT,hO,RY,hh,eF,h1,h2h,RB,hB2,abR,OW⟩)
        refine(h4.cV ?_).cV (al.perm (OI _ _ tk).symm)
        refine al.fold (B:=[_]) fun h hs=>⟨h,sub.refl h,?_⟩
        refine⟨by simp[hl,rI,Nat.add_mul],.inr ⟨b,o,cap,pre,_,rfl,hp,qk,?_,eU hs⟩⟩
        simp;omega
  · have hvs:∃a cap,v = .slice a nn cap:=by obtain⟨a,cap,hv,_⟩:=dE;exact⟨a,cap,hv⟩
    obtain⟨a,cap,rfl⟩:=hvs
    have MG:¬nn+mm≤cap:=fun h=>qk ⟨a,cap,rfl,h⟩
    have hgs:=growslice_fits (need:=nn+mm) (old:=cap) (bytes:=te.info.bytes) ag qo
    have fA:=grownCap_ge w (nn+mm) cap elem
    have hzc:z.cells=(bp z).toArray:=dQ z
    refine⟨.slice (some ⟨w.heap.size,0,none⟩) (nn+mm) (grownCap w (nn+mm) cap elem),w.drew.alloc (cl (cs++news++(Builtin.zeroCells z.cells (grownCap w (nn+mm) cap elem-(nn+mm))).toList) elem),?_,fun H' tk=>?_⟩
    · have Lc:=nI (P:=P) (G:=G) (w:=w.drew) dE (hw.draw _) hi hl
      have adF:=nI (P:=P) (G:=G) (w:=w.drew) ⟨a2,c2,rfl,by assumption⟩ (hw.draw _) hj rI
      have Ht:¬((9223372036854775807:Int)<(nn:Int)+(mm:Int)):=by omega
      have XU:¬281474976710656<Builtin.nextslicecap (nn+mm) cap*te.info.bytes:=by omega
      simp[Builtin.append_,run_underlying ht,hu,run_sizeOf he,vb,Y',Builtin.lenOf,MG,Ht,XU,Question.forced,run_typeInfo he,dU he hz,newRow,Lc,adF,grownCap,cl]
      congr 2
      apply Array.ext'
      simp
    · have h5 : Sat G (w.drew.alloc (cl (cs ++ news ++ (Builtin.zeroCells z.cells (grownCap w (nn + mm) cap elem - (nn + mm))).toList) elem))
          (ae w.heap.size (cl (cs++news++(Builtin.zeroCells z.cells (grownCap w (nn+mm) cap elem-(nn+mm))).toList) elem)::H.eraseIdx i):=by
        have h6:Sat G w (H.eraseIdx i):=(hw.cV (al.perm (dj (by rw[← dM];exact hi)))).cV (al.drop _ _)
        exact Sat.alloc (w:=w.drew) (h6.draw _) _
      refine(h5.cV ?_).cV (al.perm (OI _ _ tk).symm)
      refine al.fold (B:=[_]) fun h hs=>⟨h,sub.refl h,?_⟩
      refine⟨by simp[hl,rI,Nat.add_mul],.inr ⟨w.heap.size,0,_,[],_,rfl,rfl,fA,?_,by simpa using eU hs⟩⟩
      have h7:(Builtin.zeroCells z.cells (grownCap w (nn+mm) cap elem-(nn+mm))).size=(grownCap w (nn+mm) cap elem-(nn+mm))*te.info.size:=by rw[size_zeroCells,hzc];simp[MD]
      rw[List.length_append,hl,rI,Array.length_toList,h7,← Nat.add_mul,← Nat.add_mul]
      exact Nat.le_of_eq (by congr 1;omega)
def Qb{x y:Operand}{t t2 elem:TypeId}{bR F8 te:Ty}{z v v2:Value}{nn mm:Nat}{cs news:List Value}{A:HP}(i j:Nat)(hd:Nat.blt d n=true)(hx:ev L x=some v)(hy:ev L y=some v2)(ht:U.get t=some bR)(hu:bR.gA = .slice elem)(h2:U.get t2=some F8)(R5:(match F8.gA with | .int _=>false|_=>true)=true)(he:U.get elem=some te)(hz:te.info.zero=some z)(MD:Nat.beq (bp z).length te.info.size=true)(hi:cE H i=some (aB elem te.info.size v nn cs))(hj:cE H j=some A)(rW:Vw A v2 mm news)(rI:news.length=mm*te.info.size)(gw:∀u∈news,u.oneCell'=true)(K9:nn+mm≤9223372036854775807)(qo:(nn+mm)*te.info.bytes≤140737488355328){Hf:Value→List HP}(hp:∀v',lH i (aB elem te.info.size v' (nn+mm) (cs++news)) H [] = .mk (Hf v'))(hS:∀v' w,Sat G w (Hf v')→Sx rest S w)(h:∀v',J P f n R G S all rest k ((d,v')::L) (Hf v')) :
  J P f n R G S all (.cons false true ⟨some d,.call { callee := .builtin .append,args := #[x,y],argTypes := #[t,t2] },ty,pos,af,gd⟩ rest) k L H:=by
 refine oz hd (fun u H1=>H1=Hf u) (fun a w ha hw=>?_) ?_ ?_
 ·obtain⟨v',w',hr,hs⟩:=GJ (P:=P) (rty:=ty) i j ht hu h2 (fun q e=>by rw[e]at R5;cases R5) he hz (Nat.eq_of_beq_eq_true MD) hw hi hj rW rI gw K9 qo
  refine⟨v',w',_,?_,rfl,hs _ (hp v')⟩
  simp[execOp,resolve,invoke,builtin,ha.ev hx,ha.ev hy,hr]
 ·rintro u H1 w rfl hw;exact hS u w hw
 ·rintro u H1 rfl;exact h u
def P'{x y:Operand}{t t2 elem:TypeId}{bR te:Ty}{v2:Value}{b o dl dc mm:Nat}{l src l':List Value}{e:TypeId}{A:HP}(i j:Nat)(hd:Nat.blt d n=true)(hx:ev L x=some (.slice (some ⟨b,o,none⟩) dl dc))(hy:ev L y=some v2)(ht:U.get t=some bR)(hu:bR.gA = .slice elem)(he:U.get elem=some te)(hi:cE H i=some (ae b (cl l e)))(hj:cE H j=some A)(rW:Vw A v2 mm src)(rI:src.length=mm*te.info.size)(gw:∀u∈src,u.oneCell'=true)(yN:o+(min mm dl)*te.info.size≤l.length)(Ld:l'=l.take o++src.take (min mm dl*te.info.size)++l.drop (o+min mm dl*te.info.size))(hp:lH i (ae b (cl l' e)) H [] = .mk H')(hS:∀w,Sat G w H'→Sx rest S w)(h:J P f n R G S all rest k ((d,.int .i64 (min mm dl:Nat))::L) H') :
  J P f n R G S all (.cons false true ⟨some d,.call { callee := .builtin .copy,args := #[x,y],argTypes := #[t,t2] },ty,pos,af,gd⟩ rest) k L H:=by
 refine oz hd (fun u H1=>u = .int .i64 (min mm dl:Nat)∧H1=H') (fun a w ha hw=>?_) ?_ ?_
 ·have hf:=x8 (P:=P) (q:=min mm dl) rW hw hj rI (Nat.min_le_left _ _)
  obtain⟨a2,c2,S0,_⟩:=rW
  subst S0
  have h3:(src.take (min mm dl*te.info.size)).length=min mm dl*te.info.size:=by rw[List.length_take,rI];exact Nat.min_eq_left (Nat.mul_le_mul_right _ (Nat.min_le_left _ _))
  have cK:=gH (P:=P) (src.take (min mm dl*te.info.size)) 0 o l w (hw.tW hi) (by rw[h3];simpa using yN) (fun u hu=>gw u (List.mem_of_mem_take hu))
  simp only[Nat.add_zero,h3,← Ld]at cK
  refine⟨_,_,H',?_,⟨rfl,rfl⟩,hw.put hi hp⟩
  simp only[execOp,resolve,invoke,builtin,Sem.run_bind,Sem.run_pure,Result.andThen_ok,List.map_toArray,List.map_cons,List.map_nil,ha.ev hx,ha.ev hy,Builtin.copy_,List.getElem?_toArray,List.getElem?_cons_zero,List.getElem?_cons_succ,
   run_underlying ht,hu,Builtin.lenOf,run_sizeOf he]
  rw[show Nat.min mm dl=min mm dl from rfl]
  simp only[hf,Result.andThen_ok,cK,goInt]
 ·rintro u H1 w⟨rfl,rfl⟩ hw;exact hS w hw
 ·rintro u H1⟨rfl,rfl⟩;exact h
def nh{x y:Operand}{t elem:TypeId}{bR te:Ty}{z:Value}{p q:Nat}(hd:Nat.blt d n=true)(hx:ev L x=some (.int .i64 (p:Int)))(hy:ev L y=some (.int .i64 (q:Int)))(ht:U.get t=some bR)(hu:bR.gA = .slice elem)(he:U.get elem=some te)(hz:te.info.zero=some z)(MD:Nat.beq (bp z).length 1=true)(acN:Nat.beq te.info.size 1=true)(EH:p≤q)(K9:q≤9223372036854775807)(qo:te.info.bytes*q≤281474976710656)(hS:∀b w,Sat G w (ae b (cl (List.replicate q ((bp z).headD undef)) elem)::H)→Sx rest S w)(h:∀b,J P f n R G S all rest k ((d,.slice (some ⟨b,0,none⟩) p q)::L) (ae b (cl (List.replicate q ((bp z).headD undef)) elem)::H)) :
  J P f n R G S all (.cons false true ⟨some d,.makeSlice t x y,ty,pos,af,gd⟩ rest) k L H:=by
 refine oz hd (fun u H1=>∃b,u = .slice (some ⟨b,0,none⟩) p q∧H1=ae b (cl (List.replicate q ((bp z).headD undef)) elem)::H) (fun a w ha hw=>?_) ?_ ?_
 ·refine⟨_,_,_,?_,⟨w.heap.size,rfl,rfl⟩,hw.alloc _⟩
  have h1:te.info.size=1:=Nat.eq_of_beq_eq_true acN
  have h2:(bp z).length=1:=Nat.eq_of_beq_eq_true MD
  obtain⟨u,S4⟩:∃u,bp z=[u]:=List.length_eq_one_iff.1 h2
  have wq:IntKind.i64.wrap (q:Int)=q:=cS (by simp only[gq];omega)
  have wp:IntKind.i64.wrap (p:Int)=p:=cS (by simp only[gq];omega)
  have hb:¬((281474976710656:Int)<(te.info.bytes:Int)*(q:Int)):=by omega
  have adl:¬((q:Int)<(p:Int)):=by omega
  have Hy:z.cells = #[u]:=by rw[dQ,S4]
  have Y6:¬((q:Int)<0):=by omega
  have zX:¬((p:Int)<0):=by omega
  by_cases h0:q=0
  ·subst h0
   have adq:p=0:=by omega
   subst adq
   have w0:IntKind.i64.wrap 0=0:=cS (by simp only[gq];omega)
   simp[execOp,ha.ev hx,ha.ev hy,Instr.makeSlice,run_underlying ht,hu,asInt,asIntOf,run_typeInfo he,w0,run_sizeOf he,h1,newRow,cl]
   congr 2
   apply Array.ext'
   simp
  ·have j7:(Array.range q).map (fun i=>(#[u]:Array Value)[i%(#[u]:Array Value).size]!)=(List.replicate q u).toArray:=by
    apply Array.ext'
    simp only[Array.toList_map,Array.toList_range]
    apply List.ext_getElem?
    intro j
    by_cases hj:j<q
    ·simp[hj,List.getElem?_replicate,Nat.mod_one]
    ·simp[List.getElem?_eq_none,Nat.le_of_not_lt hj]
   have jy:(Instr.makeSlice t (.int .i64 (p:Int)) (.int .i64 (q:Int))).run P w = .ok (.slice (some ⟨w.heap.size,0,none⟩) p q) { w with heap:=w.heap.push (.cells (List.replicate q u).toArray elem) }:=by
    unfold Instr.makeSlice
    simp only[Sem.run_bind,run_underlying ht,Result.andThen_ok,hu,asInt,asIntOf,Sem.run_pure,run_typeInfo he,wp,wq]
    rw[if_neg (by simp[hb,adl])]
    simp only[pure_bind,Sem.run_bind,run_askRoom,Result.andThen_ok,run_sizeOf he,h1,Nat.mul_one,Int.toNat_natCast,h0,if_false,dU he hz,Sem.run_pure,Hy,j7,newRow,run_newObj]
   simp only[execOp,ha.ev hx,ha.ev hy,Sem.run_bind,jy,Result.andThen_ok,Sem.run_pure,S4,List.headD_cons,cl]
 ·rintro u H1 w⟨b,rfl,rfl⟩ hw;exact hS b w hw
 ·rintro u H1⟨b,rfl,rfl⟩;exact h b
def KR(L:fJ):Option Operand→Option Int
 | none=>some 0
 | some x=>match ev L x with
  | some (.int _ l)=>some l
  | _=>none
def Bh(L:fJ)(len:Nat):Option Operand→Option Int
 | none=>some (len:Int)
 | some x=>match ev L x with
  | some (.int _ l)=>some l
  | _=>none
def sD{lo hi:Option Operand}{len cap:Nat}{p q:Int}{a:Act}{w:World}(isSlice:Bool)(ha:Has n L a)(Bc:KR L lo=some p)(Gd:Bh L len hi=some q)(h0:0≤p)(EH:p≤q)(Xx:hi=none∨q≤(cap:Int)) :
  (Instr.sliceBounds isSlice len cap (lo.map a.eval) (hi.map a.eval) none).run P w = .ok (p.toNat,q.toNat,cap) w:=by
 have hh:(match hi.map a.eval with|some v=>Instr.sliceBound v cap (if isSlice then .sliceAcap else .sliceAlen)|none=>pure len:Sem Nat).run P w = .ok q.toNat w:=by
  cases hi with
  | none=>simp only[Bh,Option.some.injEq]at Gd;subst Gd;simp
  | some x =>
   simp only[Bh]at Gd
   split at Gd
   ·rename_i j l hx
    cases Gd
    simp only[Option.map_some,ha.ev hx,Instr.sliceBound,asIntOf,Sem.run_bind,Sem.run_pure,Result.andThen_ok]
    rw[if_pos ⟨ag,Xx.resolve_left (by simp)⟩];rfl
   ·cases Gd
 have hl:(match lo.map a.eval with|some v=>Instr.sliceBound v q.toNat .sliceB|none=>pure 0:Sem Nat).run P w = .ok p.toNat w:=by
  cases lo with
  | none=>simp only[KR,Option.some.injEq]at Bc;subst Bc;simp
  | some x =>
   simp only[KR]at Bc
   split at Bc
   ·rename_i j l hx
    cases Bc
    simp only[Option.map_some,ha.ev hx,Instr.sliceBound,asIntOf,Sem.run_bind,Sem.run_pure,Result.andThen_ok]
    rw[if_pos ⟨h0,ag⟩];rfl
   ·cases Bc
 unfold Instr.sliceBounds
 cases hi with
 | none =>
  cases lo with
  | none=>simp at hh hl ⊢;exact⟨hl.symm ▸ rfl,hh⟩
  | some x=>simp at hh hl ⊢;simp[hl,hh]
 | some y =>
  cases lo with
  | none=>simp at hh hl ⊢;simp[hl,hh]
  | some x=>simp at hh hl ⊢;simp[hl,hh]
def SB{t elem:TypeId}{bR te:Ty}{x:Operand}{lo hi:Option Operand}{b o len cap:Nat}{p q:Int}(hd:Nat.blt d n=true)(ht:U.get t=some bR)(hu:bR.gA = .slice elem)(he:U.get elem=some te)(hx:ev L x=some (.slice (some ⟨b,o,none⟩) len cap))(Bc:KR L lo=some p)(Gd:Bh L len hi=some q)(h0:0≤p)(EH:p≤q)(Xx:hi=none∨q≤(cap:Int))(h:∀o',(p.toNat≠cap→o'=o+p.toNat*te.info.size)→(p.toNat=cap→o'=o)→J P f n R G S all rest k ((d,.slice (some ⟨b,o',none⟩) (q.toNat-p.toNat) (cap-p.toNat))::L) H) :
  J P f n R G S all (.cons m true ⟨some d,.slice t x lo hi none,ty,pos,af,gd⟩ rest) k L H:=by
 refine dA hd (v := .slice (some ⟨b,if p.toNat=cap then o else o+p.toNat*te.info.size,none⟩) (q.toNat-p.toNat) (cap-p.toNat)) (fun a ha w=>?_) (h _ (fun e=>if_neg e) (fun e=>if_pos e))
 have hr:=sD (P:=P) (w:=w) true ha Bc Gd h0 EH Xx
 simp only[execOp,ha.ev hx,Instr.sliceAt,Sem.run_bind,run_underlying ht,Result.andThen_ok,hu,Instr.slice,Option.map_none,hr,run_sizeOf he,Sem.run_pure]
 by_cases hc:p.toNat=cap
 ·simp[hc]
 ·simp only[if_neg hc,if_neg (Ne.symm hc),Option.map_some,Addr.add_eq]
def sliceAt(a0:Option Addr)(cap p size:Nat):Option Addr:=if p=cap then a0 else a0.map fun a=>a.add (p*size)
def Im{t elem:TypeId}{bR te:Ty}{x:Operand}{lo hi:Option Operand}{a0:Option Addr}{len cap:Nat}{p q:Int}(hd:Nat.blt d n=true)(ht:U.get t=some bR)(hu:bR.gA = .slice elem)(he:U.get elem=some te)(hx:ev L x=some (.slice a0 len cap))(Bc:KR L lo=some p)(Gd:Bh L len hi=some q)(h0:0≤p)(EH:p≤q)(Xx:hi=none∨q≤(cap:Int))(h:J P f n R G S all rest k ((d,.slice (sliceAt a0 cap p.toNat te.info.size) (q.toNat-p.toNat) (cap-p.toNat))::L) H) :
  J P f n R G S all (.cons m true ⟨some d,.slice t x lo hi none,ty,pos,af,gd⟩ rest) k L H:=by
 refine dA hd (fun a ha w=>?_) h
 have hr:=sD (P:=P) (w:=w) true ha Bc Gd h0 EH Xx
 simp only[execOp,ha.ev hx,Instr.sliceAt,Sem.run_bind,run_underlying ht,Result.andThen_ok,hu,Instr.slice,Option.map_none,hr,run_sizeOf he,Sem.run_pure,sliceAt]
 by_cases hc:p.toNat=cap
 ·simp[hc]
 ·simp only[if_neg (Ne.symm hc),if_neg hc]
def zJ{t:TypeId}{bR:Ty}{x:Operand}{lo hi:Option Operand}{s:ByteArray}{p q:Int}(hd:Nat.blt d n=true)(ht:U.get t=some bR)(hu:bR.gA = .string)(hx:ev L x=some (.string s))(Bc:KR L lo=some p)(Gd:Bh L s.size hi=some q)(h0:0≤p)(EH:p≤q)(Xx:q≤(s.size:Int))(h:J P f n R G S all rest k ((d,.string (s.extract p.toNat q.toNat))::L) H) :
  J P f n R G S all (.cons m true ⟨some d,.slice t x lo hi none,ty,pos,af,gd⟩ rest) k L H:=by
 refine dA hd (fun a ha w=>?_) h
 have hr:=sD (P:=P) (w:=w) false ha Bc Gd h0 EH (.inr Xx)
 simp only[execOp,ha.ev hx,Instr.sliceAt,Sem.run_bind,run_underlying ht,Result.andThen_ok,hu,Instr.slice,Option.map_none,hr,Option.isSome_none,Bool.false_eq_true,if_false,Sem.run_pure]
def FN{t elem:TypeId}{bR te:Ty}{x y:Operand}{j:IntKind}{b o len cap:Nat}{p:Int}(hd:Nat.blt d n=true)(ht:U.get t=some bR)(hu:bR.gA = .slice elem)(he:U.get elem=some te)(hx:ev L x=some (.slice (some ⟨b,o,none⟩) len cap))(hy:ev L y=some (.int j p))(h0:0≤p)(hp:p<(len:Int))(h:J P f n R G S all rest k ((d,.pointer (some ⟨b,o+p.toNat*te.info.size,none⟩))::L) H) :
  J P f n R G S all (.cons m true ⟨some d,.indexAddr t x y,ty,pos,af,gd⟩ rest) k L H:=by
 refine dA hd (fun a ha w=>?_) h
 simp only[execOp,ha.ev hx,ha.ev hy,Instr.indexAt,asIntOf,Sem.run_bind,Sem.run_pure,run_underlying ht,Result.andThen_ok,hu]
 rw[if_pos ⟨h0,hp⟩]
 simp only[Sem.run_bind,run_sizeOf he,Result.andThen_ok,Sem.run_pure,Addr.add_eq]
def acw{t elem:TypeId}{bR te:Ty}{x y:Operand}{j:IntKind}{b o len cap:Nat}{p:Int}(q sz:Nat)(hd:Nat.blt d n=true)(ht:U.get t=some bR)(hu:bR.gA = .slice elem)(he:U.get elem=some te)(hs:te.info.size=sz)(hx:ev L x=some (.slice (some ⟨b,o,none⟩) len cap))(hy:ev L y=some (.int j p))(hq:p=(q:Int))(de:q<len)(h:J P f n R G S all rest k ((d,.pointer (some ⟨b,o+q*sz,none⟩))::L) H) :
  J P f n R G S all (.cons m true ⟨some d,.indexAddr t x y,ty,pos,af,gd⟩ rest) k L H:=by
 subst hq;subst hs
 exact FN hd ht hu he hx hy ag ag (by simpa using h)
def acv{t elem:TypeId}{bR te:Ty}{x y:Operand}{j:IntKind}{b o len cap:Nat}{p:Int}(q:Nat)(hd:Nat.blt d n=true)(ht:U.get t=some bR)(hu:bR.gA = .slice elem)(he:U.get elem=some te)(hs:te.info.size=1)(hx:ev L x=some (.slice (some ⟨b,o,none⟩) len cap))(hy:ev L y=some (.int j p))(hq:p=(q:Int))(de:q<len)(h:J P f n R G S all rest k ((d,.pointer (some ⟨b,o+q,none⟩))::L) H) :
  J P f n R G S all (.cons m true ⟨some d,.indexAddr t x y,ty,pos,af,gd⟩ rest) k L H :=
 acw q 1 hd ht hu he hs hx hy hq de (by simpa using h)
def zM{t elem:TypeId}{bR te:Ty}{x y:Operand}{j:IntKind}{b o len:Nat}{p:Int}(hd:Nat.blt d n=true)(ht:U.get t=some bR)(hu:bR.gA = .array len elem)(he:U.get elem=some te)(hx:ev L x=some (.pointer (some ⟨b,o,none⟩)))(hy:ev L y=some (.int j p))(h0:0≤p)(hp:p<(len:Int))(h:J P f n R G S all rest k ((d,.pointer (some ⟨b,o+p.toNat*te.info.size,none⟩))::L) H) :
  J P f n R G S all (.cons m true ⟨some d,.indexAddr t x y,ty,pos,af,gd⟩ rest) k L H:=by
 refine dA hd (fun a ha w=>?_) h
 simp only[execOp,ha.ev hx,ha.ev hy,Instr.indexAt,asIntOf,Sem.run_bind,Sem.run_pure,run_underlying ht,Result.andThen_ok,hu,Instr.sureAddr]
 rw[if_pos ⟨h0,hp⟩]
 simp only[Sem.run_bind,run_sizeOf he,Result.andThen_ok,Sem.run_pure,Addr.add_eq]
def vr(s:ByteArray)(i:Nat):UInt8:=s.data.toList.getD i 0
def sY{t:TypeId}{bR:Ty}{x y:Operand}{j:IntKind}{s:ByteArray}{p:Int}(hd:Nat.blt d n=true)(ht:U.get t=some bR)(hu:bR.gA = .string)(hx:ev L x=some (.string s))(hy:ev L y=some (.int j p))(h0:0≤p)(hp:p<(s.size:Int))(h:J P f n R G S all rest k ((d,.int .u8 ((vr s p.toNat).toNat:Int))::L) H) :
  J P f n R G S all (.cons m true ⟨some d,.index t x y,ty,pos,af,gd⟩ rest) k L H:=by
 refine dA hd (fun a ha w=>?_) h
 have de:p.toNat<s.size:=by omega
 have hb:s[p.toNat]?=some (vr s p.toNat):=by
  have h1:p.toNat<s.data.size:=de
  have h2:s[p.toNat]?=some s[p.toNat]:=by simp[de]
  rw[h2]
  congr 1
  unfold vr
  rw[List.getD_eq_getElem?_getD,Array.getElem?_toList,Array.getElem?_eq_getElem h1]
  rfl
 simp[execOp,ha.ev hx,ha.ev hy,Instr.index,asIntOf,run_underlying ht,hu,h0,hb]
def zN{t elem:TypeId}{bR te:Ty}{x y:Operand}{j:IntKind}{cs:Array Value}{len:Nat}{p:Int}{v:Value}(hd:Nat.blt d n=true)(ht:U.get t=some bR)(hu:bR.gA = .array len elem)(he:U.get elem=some te)(hg:te.isAgg=false)(h1:Nat.beq te.info.size 1=true)(hx:ev L x=some (.agg cs))(hy:ev L y=some (.int j p))(h0:0≤p)(hp:p<(len:Int))(hv:cs.toList[p.toNat]?=some v)(h:J P f n R G S all rest k ((d,v)::L) H) :
  J P f n R G S all (.cons m true ⟨some d,.index t x y,ty,pos,af,gd⟩ rest) k L H:=by
 refine dA hd (fun a ha w=>?_) h
 have S0:cs[p.toNat]?=some v:=by simpa using hv
 have h1':te.info.size=1:=Nat.eq_of_beq_eq_true h1
 simp[execOp,ha.ev hx,ha.ev hy,Instr.index,asIntOf,run_underlying ht,hu,h0,hp,run_sizeOf he,h1',part,qQ he,hg,S0]
def ux{t:TypeId}{x:Operand}{b off:Nat}{bR:Ty}{v:Value}{A:HP}(i:Nat)(hd:Nat.blt d n=true)(hx:ev L x=some (.pointer (some ⟨b,off,none⟩)))(hi:cE H i=some A)(hv:∀h,A h→dF h b off=some v)(ht:U.get t=some bR)(hg:bR.isAgg=false)(h:J P f n R G S all rest k ((d,v)::L) H):J P f n R G S all (.cons false true ⟨some d,.load t x,ty,pos,af,gd⟩ rest) k L H :=
 xz hd hx (fun w hw=>by
  obtain⟨h,hh,hA⟩:=hw.lf hi
  exact dW hh (hv h hA)) ht hg h
def u8(x:UInt8):Value := .int .u8 (x.toNat:Int)
def bV(bs:List UInt8):List Value:=bs.map u8
def bC(bs:List UInt8):(bV bs).length=bs.length:=by simp[bV]
def cX(bs:List UInt8):∀u∈bV bs,u.oneCell'=true:=by
 intro u hu
 simp only[bV,List.mem_map]at hu
 obtain⟨x,_,rfl⟩:=hu
 rfl
def foldl_push(bs:List UInt8):∀s:ByteArray,(bs.map fun x=>(x.toNat:Int)).foldl (fun r n=>r.push (UInt8.ofNat n.toNat)) s=⟨(s.data.toList++bs).toArray⟩:=by
 induction bs with
 | nil=>intro s;simp
 | cons x l ih =>
  intro s
  simp only[List.map_cons,List.foldl_cons,ih]
  simp[ByteArray.push]
def strOf(bs:List UInt8):ByteArray:=⟨bs.toArray⟩
def xS(s:ByteArray):strOf s.data.toList=s:=by simp[strOf]
def AH{a b:List UInt8}:strOf a=strOf b↔a=b:=by
 constructor
 ·intro h;have:=congrArg (fun s:ByteArray=>s.data.toList) h;simpa[strOf]using this
 ·rintro rfl;rfl
def n8{a b:List UInt8}:TF (strOf a) (strOf b)=decide (a=b):=by
 rw[Bool.eq_iff_iff,Sd,AH];simp
def Sz{src dst e:TypeId}{ts td te:Ty}{x:Operand}{v:Value}{A:HP}{bs:List UInt8}(i:Nat)(hd:Nat.blt d n=true)(hx:ev L x=some v)(hs:U.get src=some ts)(ED:ts.gA = .slice e)(he:U.get e=some te)(RR:te.gA = .int .u8)(EX:U.get dst=some td)(EW:td.gA = .string)(hi:cE H i=some A)(hv:Vw A v bs.length (bV bs))(h:J P f n R G S all rest k ((d,.string (strOf bs))::L) H):J P f n R G S all (.cons false true ⟨some d,.convert src dst x,ty,pos,af,gd⟩ rest) k L H:=by
 refine kJ hd (fun a w ha hw=>?_) h
 obtain⟨a0,cap,rfl,h0|⟨b,o,rfl,hc⟩⟩:=hv.cells hw hi
 ·have hb:bs=[]:=by simpa[bV]using h0
  subst hb
  cases a0 with
  | none =>
   simp only[execOp,ha.ev hx,Sem.run_bind]
   rw[run_convert_bytes_string w src dst e _ _ _ (by rw[fD (P:=P) hs,ED]) (by rw[fD (P:=P) he,RR]) (by rw[fD (P:=P) EX,EW])]
   simp[Conv.bytesToString,strOf]
   rfl
  | some a1 =>
   simp only[execOp,ha.ev hx,Sem.run_bind]
   rw[run_convert_bytes_string w src dst e _ _ _ (by rw[fD (P:=P) hs,ED]) (by rw[fD (P:=P) he,RR]) (by rw[fD (P:=P) EX,EW])]
   rw[run_bytesToString w a1 _ _ [] (by simp[loadCells,loadCellsFrom])]
   simp[strOf]
   rfl
 ·have h1:=run_loadCells_list (P:=P) w ⟨b,o,none⟩ (bV bs) (fun j c hj=>by rw[Addr.add_eq];exact hc j c hj)
  rw[bC]at h1
  simp only[execOp,ha.ev hx,Sem.run_bind]
  rw[run_convert_bytes_string w src dst e _ _ _ (by rw[fD (P:=P) hs,ED]) (by rw[fD (P:=P) he,RR]) (by rw[fD (P:=P) EX,EW])]
  rw[run_bytesToString w _ _ _ (bs.map fun x=>(x.toNat:Int)) (by rw[h1];simp[bV,u8]),foldl_push]
  simp[strOf]
def bq(b:Nat)(s:ByteArray)(e:TypeId)(cap:Nat):HP:=ae b (.cells (bytesRow s cap) e ((bytesRow s cap).size,(bytesRow s cap).size+1))
def GA(b:Nat)(s:ByteArray)(e:TypeId)(cap gM:Nat):Vw (bq b s e cap) (.slice (some ⟨b,0,none⟩) s.size gM) s.size (bV s.data.toList):=by
 refine⟨_,gM,rfl,.inr ⟨b,0,rfl,fun h hA j c hj=>?_⟩⟩
 unfold dF
 rw[hA b,if_pos rfl]
 simp only[bytesRow,Nat.zero_add]
 have de:j<s.data.size:=by
  rcases Nat.lt_or_ge j s.data.size with h|h
  ·exact h
  ·rw[bV,List.getElem?_eq_none (by simpa using h)]at hj;cases hj
 simp only[bV]at hj
 rw[Array.getElem?_append_left (by simpa using de)]
 simpa[de,u8]using hj
def Me{src dst e:TypeId}{ts td te:Ty}{x:Operand}{s:ByteArray}(hd:Nat.blt d n=true)(hx:ev L x=some (.string s))(hs:U.get src=some ts)(ED:ts.gA = .string)(EX:U.get dst=some td)(EW:td.gA = .slice e)(he:U.get e=some te)(RR:te.gA = .int .u8)(hS:∀b cap w,Sat G w (bq b s e cap::H)→Sx rest S w)(h:∀b cap,J P f n R G S all rest k ((d,.slice (some ⟨b,0,none⟩) s.size cap)::L) (bq b s e cap::H)):J P f n R G S all (.cons false true ⟨some d,.convert src dst x,ty,pos,af,gd⟩ rest) k L H:=by
 refine oz hd (fun u H1=>∃b cap,u = .slice (some ⟨b,0,none⟩) s.size cap∧H1=bq b s e cap::H) (fun a w ha hw=>?_) ?_ ?_
 ·refine⟨_,w.drew.alloc (.cells (bytesRow s (grownCap w s.size 0 e)) e ((bytesRow s (grownCap w s.size 0 e)).size,(bytesRow s (grownCap w s.size 0 e)).size+1)),_,?_,⟨w.heap.size,grownCap w s.size 0 e,rfl,rfl⟩,?_⟩
  ·have:=run_bytes_of_string (P:=P) w src dst e s (by rw[fD (P:=P) hs,ED]) (by rw[fD (P:=P) EX,EW]) (by rw[fD (P:=P) he,RR])
   simp only[execOp,ha.ev hx,Sem.run_bind,this,Result.andThen_ok,Sem.run_pure]
  ·exact Sat.alloc (w:=w.drew) (hw.draw _) _
 ·rintro u H1 w⟨b,cap,rfl,rfl⟩ hw;exact hS b cap w hw
 ·rintro u H1⟨b,cap,rfl,rfl⟩;exact h b cap
end
end Go.SL
namespace Go.SL
structure mG(P:Program)(kt:TypeId){κ:Type}(kv:κ→Value):Prop where
 inj:∀a b,kv a=kv b→a=b
 check:∀(e:Bool) (k:κ) (w:World),(Instr.checkKey e 10000 kt (kv k)).run P w = .ok () w
 find:∀(k:κ) (l:List MapEntry) (ks:List κ) (w:World),l.map (·.key)=ks.map kv →
  ∃r,(Instr.findKey kt (kv k) l).run P w = .ok r w ∧
   ((r=none∧k ∉ ks)∨∃i e,r=some (i,e.val)∧l[i]?=some e∧ks[i]?=some k∧∀j,j<i→ks[j]? ≠ some k)
 bits:∀k,Instr.sameBits 10000 (kv k) (kv k)=true
def findNow_spec{κ:Type}{kv:κ→Value}{kind:TypeDesc}[DecidableEq κ](hs:∀a b,Instr.sameNow kind (kv a) (kv b)=some (decide (a=b)))(k:κ) :
  ∀(l:List MapEntry) (ks:List κ) (o:Nat),l.map (·.key)=ks.map kv →
   ∃r,Instr.findNow kind (kv k) l o=some r∧((r=none∧k ∉ ks)∨∃i e,r=some (o+i,e.val)∧l[i]?=some e∧ks[i]?=some k∧∀j,j<i→ks[j]? ≠ some k):=by
 intro l
 induction l with
 | nil =>
  intro ks o h
  have:ks=[]:=by simpa using h.symm
  subst this
  exact⟨none,rfl,.inl ⟨rfl,by simp⟩⟩
 | cons e l ih =>
  intro ks o h
  cases ks with
  | nil=>simp at h
  | cons c ks =>
   simp only[List.map_cons,List.cons.injEq]at h
   obtain⟨h1,h2⟩:=h
   simp only[Instr.findNow,h1,hs]
   by_cases Jl:k=c
   ·subst Jl
    refine⟨_,by simp;rfl,.inr ⟨0,e,by simp,by simp,by simp,fun j hj=>absurd hj ag⟩⟩
   ·obtain⟨r,hr,iL⟩:=ih ks (o+1) h2
    refine⟨r,by simp[Jl,hr],?_⟩
    rcases iL with⟨rfl,hn⟩|⟨i,e',rfl,hi,hk,hj⟩
    ·exact .inl ⟨rfl,by simp[Jl,hn]⟩
    ·refine .inr ⟨i+1,e',by congr 2;omega,by simpa using hi,by simpa using hk,fun j rf=>?_⟩
     cases j with
     | zero=>simp;exact fun h=>Jl h.symm
     | succ j=>simpa using hj j ag
def rS{P:Program}{kt:TypeId}{kind:TypeDesc}{κ:Type}[DecidableEq κ]{kv:κ→Value}(hu:P.underlying kt=some kind)(hs:∀a b,Instr.sameNow kind (kv a) (kv b)=some (decide (a=b)))(hk:(match kind with | .interface _=>false | .array _ _=>false | .struct _=>false|_=>true)=true)(inj:∀a b,kv a=kv b→a=b)(bits:∀k,Instr.sameBits 10000 (kv k) (kv k)=true):mG P kt kv where
 inj:=inj
 check:=fun e k w=>by
  unfold Instr.checkKey
  simp only[Sem.run_bind,underlying,run_program,Result.andThen_ok,hu,Sem.run_pure]
  cases kind <;> simp_all
 find:=fun k l ks w h=>by
  obtain⟨r,hr,iL⟩:=findNow_spec hs k l ks 0 h
  refine⟨r,?_,?_⟩
  ·simp only[Instr.findKey,Sem.run_bind,underlying,run_program,Result.andThen_ok,hu,Sem.run_pure,hr]
  ·rcases iL with h|⟨i,e,hr,hi,hk,hj⟩
   ·exact .inl h
   ·exact .inr ⟨i,e,by rw[hr];simp,hi,hk,hj⟩
 bits:=bits
def ack(a b:ByteArray):(a == b)=decide (a=b):=by
 rw[Bool.eq_iff_iff]
 simp only[decide_eq_true_eq]
 constructor
 ·intro h
  have h1:(a.data == b.data)=true:=h
  cases a;cases b;simp at h1;rw[h1]
 ·rintro rfl
  show(a.data == a.data)=true
  simp
def ij{α β:Type}(g:α→β)(l:List α)(i:Nat):(l.eraseIdx i).map g=(l.map g).eraseIdx i:=by
 induction l generalizing i with
 | nil=>rfl
 | cons x l ih=>cases i <;> simp[ih]
def Oj{P:Program}{kt:TypeId}(hu:P.underlying kt=some .string):mG P kt Value.string :=
 rS hu (fun a b=>by simp only[Instr.sameNow,ack]) rfl (fun a b h=>by cases h;rfl) (fun k=>by simp[Instr.sameBits,ack])
def Ck{P:Program}{kt:TypeId}{j:IntKind}(hu:P.underlying kt=some (.int j)):mG P kt (Value.int j) :=
 rS hu (fun a b=>by simp only[Instr.sameNow,if_true,acj]) rfl (fun a b h=>by cases h;rfl) (fun k=>by simp[Instr.sameBits])
section
variable{κ:Type}[DecidableEq κ]
def ew(es:List (κ × Value))(k:κ):Option Value:=(es.find? fun x=>decide (x.1=k)).map (·.2)
def nA(es:List (κ × Value))(k:κ)(v:Value):List (κ × Value):=if k∈es.map (·.1)then es.map (fun x=>if x.1=k then(k,v)else x)else es++[(k,v)]
def rL(es:List (κ × Value))(k:κ):List (κ × Value):=es.filter fun x => !decide (x.1=k)
def zx{es:List (κ × Value)}{k:κ}:ew es k=none↔k ∉ es.map (·.1):=by
 unfold ew
 simp only[Option.map_eq_none_iff,List.find?_eq_none,decide_eq_true_eq,List.mem_map,not_exists,not_and]
def By{es:List (κ × Value)}{k:κ}{i:Nat}{v:Value}(hi:es[i]?=some (k,v))(hj:∀j,j<i→(es.map (·.1))[j]? ≠ some k):ew es k=some v:=by
 induction es generalizing i with
 | nil=>simp at hi
 | cons x es ih =>
  cases i with
  | zero=>simp at hi;subst hi;simp[ew]
  | succ i =>
   simp at hi
   have h0:=hj 0 ag
   simp at h0
   have:=ih hi (fun j rf=>by have:=hj (j+1) ag;simpa using this)
   unfold ew at this ⊢
   simp[h0,this]
def qd(kv:κ→Value)(o:Obj)(es:List (κ × Value)):Prop :=
 ∃entries clock,o = .map entries clock∧entries.toList.map (fun e=>(e.key,e.val))=es.map (fun x=>(kv x.1,x.2))∧(es.map (·.1)).Nodup∧(∀e∈entries.toList,e.born<clock)∧(entries.toList.map (·.born)).Nodup
def aP(kv:κ→Value)(b:Nat)(es:List (κ × Value)):HP:=fun h=>∃o,qd kv o es∧ae b o h
def Sat.o8{G:cJ}{w:World}{H:List HP}{kv:κ→Value}{b:Nat}{es:List (κ × Value)}(hs:Sat G w H){i:Nat}(hi:cE H i=some (aP kv b es)):∃o,qd kv o es∧w.heap[b]?=some o:=by
 obtain⟨h,hh,o,ho,hp⟩:=hs.lf hi
 exact⟨o,ho,hh b o (by rw[hp b];simp)⟩
def qe(kv:κ→Value)(b:Nat):∀h,ae b (.map #[] 0) h→aP kv b [] h:=fun h hp=>⟨_,⟨#[],0,rfl,rfl,by simp,by simp,by simp⟩,hp⟩
def G'{kv:κ→Value}{b:Nat}{es:List (κ × Value)}{h:Hp}(hm:aP kv b es h):(es.map (·.1)).Nodup:=by
 obtain⟨o,⟨_,_,_,_,hn,_⟩,_⟩:=hm;exact hn
def Sat.B9{G:cJ}{w:World}{H H':List HP}{kv:κ→Value}{b:Nat}{es es':List (κ × Value)}{o':Obj}{i:Nat}(hs:Sat G w H)(hi:cE H i=some (aP kv b es))(hm:qd kv o' es')(hp:lH i (aP kv b es') H [] = .mk H') :
  Sat G { w with heap:=w.heap.setIfInBounds b o' } H':=by
 have Af:=hs.cV (al.perm (dj (by rw[← dM];exact hi)))
 obtain⟨hT,hO,RY,hh,eF,h1,h2,⟨o,ho,wA⟩,hB,hd,hj⟩:=Af
 have uH:Sat G w (ae b o::H.eraseIdx i):=⟨hT,hO,RY,hh,eF,h1,h2,wA,hB,hd,hj⟩
 have h3:=uH.BW (o':=o')
 have h4:=oQ i _ _ H [] H' hp hi
 refine(h3.cV ?_).cV (al.perm (by simpa using h4.symm))
 exact al.fold (B:=[_]) fun h hs=>⟨h,sub.refl h,o',hm,eU hs⟩
end
section
variable{P:Program}{U:Tr}[hU:fX P U]{f:FuncId}{n:Nat}{R:Ending→World→Prop}{G:cJ}{k:List Item}{L:fJ}{H H':List HP}{S:World→Prop}{all:Array Oper}{rest:Pl}{ty:TypeId}{pos:String}{af:Array Edge}{gd:Option (Nat × Bool)}{m:Bool}{d:Tmp}
variable{κ:Type}[DecidableEq κ]{kv:κ→Value}
def run_getObj_map{w:World}{b:Nat}{es:Array MapEntry}{c:Nat}(h:w.heap[b]?=some (.map es c)):(getObj b).run P w = .ok (.map es c) w:=by
 simp[getObj,Sem.run,h]
def oM{t kt et:TypeId}{bR te:Ty}{z:Value}{b:Nat}{es:List (κ × Value)}{key:κ}{o:Obj}{w:World}(c:Bool)(Ah:mG P kt kv)(ht:U.get t=some bR)(hu:bR.gA = .map kt et)(he:U.get et=some te)(hz:te.info.zero=some z)(hm:qd kv o es)(hb:w.heap[b]?=some o) :
  (Instr.lookup t (.map (some b)) (kv key) c).run P w = .ok (if c then .tuple #[(ew es key).getD z,.bool (ew es key).isSome]else(ew es key).getD z) w:=by
 obtain⟨entries,clock,rfl,rK,kj,k9,HB⟩:=hm
 have XP:entries.toList.map (·.key)=(es.map (·.1)).map kv:=by
  have:=congrArg (List.map (·.1)) rK
  simpa[Function.comp_def]using this
 obtain⟨r,hr,iL⟩:=Ah.find key entries.toList (es.map (·.1)) w XP
 unfold Instr.lookup
 simp only[Sem.run_bind,run_underlying ht,Result.andThen_ok,hu,run_getObj_map hb,Sem.run_pure,Ah.check,hr]
 rcases iL with⟨rfl,hn⟩|⟨i,e,rfl,hi,hk,hj⟩
 ·have:=zx.2 hn
  simp only[Sem.run_bind,dU he hz,Result.andThen_ok,Sem.run_pure,this]
  cases c <;> rfl
 ·have hv:es[i]?=some (key,e.val):=by
   have h1:=congrArg (·[i]?) rK
   simp only[List.getElem?_map,hi,Option.map_some]at h1
   simp only[List.getElem?_map]at hk
   cases hx:es[i]? with
   | none=>rw[hx]at hk;cases hk
   | some x =>
    rw[hx]at h1 hk
    simp only[Option.map_some,Option.some.injEq,Prod.mk.injEq]at h1 hk
    rw[← hk,h1.2]
  have:=By hv hj
  simp only[Sem.run_pure,Result.andThen_ok,this]
  cases c <;> rfl
def P7{t kt et:TypeId}{bR te:Ty}{z:Value}{x y:Operand}{b:Nat}{es:List (κ × Value)}{key:κ}{qi:Value}(i:Nat)(hd:Nat.blt d n=true)(Ah:mG P kt kv)(hx:ev L x=some (.map (some b)))(hy:ev L y=some qi)(OU:qi=kv key)(ht:U.get t=some bR)(hu:bR.gA = .map kt et)(he:U.get et=some te)(hz:te.info.zero=some z)(hi:cE H i=some (aP kv b es))(h:J P f n R G S all rest k ((d,(ew es key).getD z)::L) H):J P f n R G S all (.cons false true ⟨some d,.lookup t x y false,ty,pos,af,gd⟩ rest) k L H :=
 kJ hd (fun a w ha hw=>by
  obtain⟨o,hm,hb⟩:=hw.o8 hi
  subst OU
  simp[execOp,ha.ev hx,ha.ev hy,oM (P:=P) (key:=key) false Ah ht hu he hz hm hb]) h
def qK{t kt et:TypeId}{bR te:Ty}{z:Value}{x y:Operand}{b:Nat}{es:List (κ × Value)}{key:κ}{qi:Value}(hd:Nat.blt d n=true)(Ah:mG P kt kv)(hx:ev L x=some (.map (some b)))(hy:ev L y=some qi)(OU:qi=kv key)(ht:U.get t=some bR)(hu:bR.gA = .map kt et)(he:U.get et=some te)(hz:te.info.zero=some z)(hi:∀w,Sat G w H→∃o,qd kv o es∧w.heap[b]?=some o)(h:J P f n R G S all rest k ((d,.tuple #[(ew es key).getD z,.bool (ew es key).isSome])::L) H):J P f n R G S all (.cons false true ⟨some d,.lookup t x y true,ty,pos,af,gd⟩ rest) k L H :=
 kJ hd (fun a w ha hw=>by
  obtain⟨o,hm,hb⟩:=hi w hw
  subst OU
  simp[execOp,ha.ev hx,ha.ev hy,oM (P:=P) (key:=key) true Ah ht hu he hz hm hb]) h
def BF{t kt et:TypeId}{bR te:Ty}{z:Value}{x y:Operand}{b:Nat}{es:List (κ × Value)}{key:κ}{qi:Value}(hd:Nat.blt d n=true)(Ah:mG P kt kv)(hx:ev L x=some (.map (some b)))(hy:ev L y=some qi)(OU:qi=kv key)(ht:U.get t=some bR)(hu:bR.gA = .map kt et)(he:U.get et=some te)(hz:te.info.zero=some z)(hi:∀w,S w→∃o,qd kv o es∧w.heap[b]?=some o)(h:J P f n R G S all rest k ((d,(ew es key).getD z)::L) H):J P f n R G S all (.cons true true ⟨some d,.lookup t x y false,ty,pos,af,gd⟩ rest) k L H :=
 kR hd (fun a w ha hw=>by
  obtain⟨o,hm,hb⟩:=hi w hw
  subst OU
  simp[execOp,ha.ev hx,ha.ev hy,oM (P:=P) (key:=key) false Ah ht hu he hz hm hb]) h
def qJ{t kt et:TypeId}{bR te:Ty}{z:Value}{x y:Operand}{b:Nat}{es:List (κ × Value)}{key:κ}{qi:Value}(hd:Nat.blt d n=true)(Ah:mG P kt kv)(hx:ev L x=some (.map (some b)))(hy:ev L y=some qi)(OU:qi=kv key)(ht:U.get t=some bR)(hu:bR.gA = .map kt et)(he:U.get et=some te)(hz:te.info.zero=some z)(hi:∀w,S w→∃o,qd kv o es∧w.heap[b]?=some o)(h:J P f n R G S all rest k ((d,.tuple #[(ew es key).getD z,.bool (ew es key).isSome])::L) H):J P f n R G S all (.cons true true ⟨some d,.lookup t x y true,ty,pos,af,gd⟩ rest) k L H :=
 kR hd (fun a w ha hw=>by
  obtain⟨o,hm,hb⟩:=hi w hw
  subst OU
  simp[execOp,ha.ev hx,ha.ev hy,oM (P:=P) (key:=key) true Ah ht hu he hz hm hb]) h
def N8{entries:Array MapEntry}{clock:Nat}{es:List (κ × Value)}{key:κ}{v:Value}{i:Nat}{e:MapEntry}(hm:qd kv (.map entries clock) es)(hi:entries.toList[i]?=some e)(hk:(es.map (·.1))[i]?=some key) :
  qd kv (.map (entries.modify i fun e=>{ e with key:=kv key,val:=v }) clock) (nA es key v):=by
 obtain⟨ub,CH,heq,rK,kj,k9,HB⟩:=hm
 cases heq
 have fz:key∈es.map (·.1):=List.mem_of_getElem? hk
 have XI:(entries.modify i fun e=>{ e with key:=kv key,val:=v }).toList=entries.toList.modify i (fun e=>{ e with key:=kv key,val:=v }):=by simp
 refine⟨_,clock,rfl,?_,?_,?_,?_⟩
 ·rw[XI]
  apply List.ext_getElem?
  intro j
  have hj:=congrArg (·[j]?) rK
  simp only[List.getElem?_map]at hj
  simp only[nA,fz,if_true,List.getElem?_map,List.getElem?_modify]
  cases hx:es[j]? with
  | none =>
   rw[hx]at hj
   simp at hj
   simp[hj]
  | some x =>
   rw[hx]at hj
   simp only[Option.map_some]at hj
   cases hy:entries.toList[j]? with
   | none=>rw[hy]at hj;cases hj
   | some y =>
    rw[hy]at hj
    simp only[Option.map_some,Option.some.injEq,Prod.mk.injEq]at hj
    by_cases Bg:i=j
    ·subst Bg
     simp only[List.getElem?_map,hx,Option.map_some,Option.some.injEq]at hk
     simp[hk]
    ·have bY:x.1≠key:=fun hxk=>by
      have h1:(es.map (·.1))[j]?=some key:=by simp[hx,hxk]
      exact Bg ((List.getElem?_inj (by
       rcases Nat.lt_or_ge i (es.map (·.1)).length with h|h
       ·exact h
       ·rw[List.getElem?_eq_none h]at hk;cases hk) kj).1 (hk.trans h1.symm))
     simp[Bg,bY,hj.1,hj.2]
 ·have:(nA es key v).map (·.1)=es.map (·.1):=by
   simp only[nA,fz,if_true,List.map_map]
   apply List.map_congr_left
   intro x _
   simp only[Function.comp]
   split
   ·rename_i h;exact h.symm
   ·rfl
  rw[this];exact kj
 ·intro e' MI
  rw[XI]at MI
  obtain⟨j,hj⟩:=List.getElem?_of_mem MI
  rw[List.getElem?_modify]at hj
  cases hy:entries.toList[j]? with
  | none=>rw[hy]at hj;cases hj
  | some y =>
   rw[hy]at hj
   have:=k9 y (List.mem_of_getElem? hy)
   simp at hj
   split at hj <;> (subst hj;exact this)
 ·rw[XI]
  have:(entries.toList.modify i (fun e=>{ e with key:=kv key,val:=v })).map (·.born)=entries.toList.map (·.born):=by
   apply List.ext_getElem?
   intro j
   simp only[List.getElem?_map,List.getElem?_modify]
   cases hy:entries.toList[j]? with
   | none=>rfl
   | some y=>simp only[Option.map_some];split <;> rfl
  rw[this];exact HB
def KQ{entries:Array MapEntry}{clock:Nat}{es:List (κ × Value)}{key:κ}{v:Value}(hm:qd kv (.map entries clock) es)(hn:key ∉ es.map (·.1)) :
  qd kv (.map (entries.push { key:=kv key,val:=v,born:=clock }) (clock+1)) (nA es key v):=by
 obtain⟨ub,CH,heq,rK,kj,k9,HB⟩:=hm
 cases heq
 refine⟨_,clock+1,rfl,?_,?_,?_,?_⟩
 ·simp[nA,hn,rK]
 ·simp only[nA,hn,if_false,List.map_append,List.map_cons,List.map_nil]
  rw[List.nodup_append]
  exact⟨kj,by simp,fun a ha b hb=>by simp at hb;subst hb;rintro rfl;exact hn ha⟩
 ·intro e he
  simp only[Array.toList_push,List.mem_append,List.mem_singleton]at he
  rcases he with he|rfl
  ·have:=k9 e he;omega
  ·simp
 ·simp only[Array.toList_push,List.map_append,List.map_cons,List.map_nil]
  rw[List.nodup_append]
  refine⟨HB,by simp,fun a ha b hb=>?_⟩
  simp at hb
  subst hb
  obtain⟨e,he,rfl⟩:=List.mem_map.1 ha
  have:=k9 e he
  omega
def GF{t kt et:TypeId}{bR:Ty}{b:Nat}{es:List (κ × Value)}{key:κ}{v:Value}{w:World}{i:Nat}(Ah:mG P kt kv)(ht:U.get t=some bR)(hu:bR.gA = .map kt et)(hw:Sat G w H)(hi:cE H i=some (aP kv b es))(hp:lH i (aP kv b (nA es key v)) H [] = .mk H') :
  ∃w',(Instr.mapUpdate t (.map (some b)) (kv key) v).run P w = .ok () w'∧Sat G w' H':=by
 obtain⟨o,hm,hb⟩:=hw.o8 hi
 have zY:=hm
 obtain⟨entries,clock,rfl,rK,kj,k9,HB⟩:=hm
 have XP:entries.toList.map (·.key)=(es.map (·.1)).map kv:=by
  have:=congrArg (List.map (·.1)) rK
  simpa[Function.comp_def]using this
 obtain⟨r,hr,iL⟩:=Ah.find key entries.toList (es.map (·.1)) w XP
 have ir:∀o',(setObj b o').run P w = .ok () { w with heap:=w.heap.setIfInBounds b o' }:=fun o'=>by simp[setObj,Sem.run,hb]
 rcases iL with⟨rfl,hn⟩|⟨j,e,rfl,hj,hk,de⟩
 ·refine⟨_,?_,hw.B9 hi (KQ (v:=v) zY hn) hp⟩
  unfold Instr.mapUpdate
  simp only[Sem.run_bind,run_underlying ht,Result.andThen_ok,hu,run_getObj_map hb,Ah.check,hr,ir]
 ·refine⟨_,?_,hw.B9 hi (N8 (v:=v) zY hj hk) hp⟩
  have hek:e.key=kv key:=by
   have h1:=congrArg (·[j]?) XP
   simp only[List.getElem?_map,hj,Option.map_some]at h1 hk
   rw[hk]at h1
   simpa using h1
  have rf:entries[j]?=some e:=by simpa using hj
  unfold Instr.mapUpdate
  simp only[Sem.run_bind,run_underlying ht,Result.andThen_ok,hu,run_getObj_map hb,Ah.check,hr,rf,Option.map_some,Option.getD_some,hek,Instr.keyThatStays,Ah.bits,if_true,Sem.run_pure,ir]
def FM{t kt et:TypeId}{bR:Ty}{x y v0:Operand}{b:Nat}{es:List (κ × Value)}{key:κ}{qi v:Value}(i:Nat)(Ah:mG P kt kv)(hS:∀w,Sat G w H'→Sx rest S w)(hx:ev L x=some (.map (some b)))(hy:ev L y=some qi)(OU:qi=kv key)(hv:ev L v0=some v)(ht:U.get t=some bR)(hu:bR.gA = .map kt et)(hi:cE H i=some (aP kv b es))(hp:lH i (aP kv b (nA es key v)) H [] = .mk H')(h:J P f n R G S all rest k L H'):J P f n R G S all (.cons false true ⟨none,.mapUpdate t x y v0,ty,pos,af,gd⟩ rest) k L H:=by
 refine Qd (fun H1=>H1=H') (fun a w ha hw=>?_) (fun H1 w e hw=>hS w (e ▸ hw)) (fun H1 e=>e ▸ h)
 subst OU
 obtain⟨w',hr,hs⟩:=GF (P:=P) Ah ht hu hw hi hp
 exact⟨w',H',by simp[execOp,ha.ev hx,ha.ev hy,ha.ev hv,hr],rfl,hs⟩
def CA{es:List (κ × Value)}{key:κ}:∀ {i:Nat},(es.map (·.1)).Nodup→(es.map (·.1))[i]?=some key→rL es key=es.eraseIdx i:=by
 induction es with
 | nil=>intro i _ h;simp at h
 | cons x es ih =>
  intro i kj hk
  simp only[List.map_cons,List.nodup_cons]at kj
  cases i with
  | zero =>
   simp at hk
   subst hk
   simp only[rL,decide_true,Bool.not_true,List.filter_cons,Bool.false_eq_true,if_false,List.eraseIdx_cons_zero]
   apply List.filter_eq_self.2
   intro y hy
   simp only[Bool.not_eq_true',decide_eq_false_iff_not]
   intro e
   exact kj.1 (List.mem_map.2 ⟨y,hy,e⟩)
  | succ i =>
   simp at hk
   have bY:x.1≠key:=fun e=>kj.1 (by rw[e];exact List.mem_of_getElem? (by simpa using hk))
   have:=ih kj.2 (i:=i) (by simpa using hk)
   simp only[rL]at this ⊢
   simp[bY,this]
def LP{es:List (κ × Value)}{key:κ}(h:key ∉ es.map (·.1)):rL es key=es:=by
 apply List.filter_eq_self.2
 intro y hy
 simp only[Bool.not_eq_true',decide_eq_false_iff_not]
 intro e
 exact h (List.mem_map.2 ⟨y,hy,e⟩)
def N9{entries:Array MapEntry}{clock:Nat}{es:List (κ × Value)}{key:κ}{i:Nat}{e:MapEntry}(hm:qd kv (.map entries clock) es)(hi:entries.toList[i]?=some e)(hk:(es.map (·.1))[i]?=some key) :
  qd kv (.map (entries.eraseIdxIfInBounds i) clock) (rL es key):=by
 obtain⟨ub,CH,heq,rK,kj,k9,HB⟩:=hm
 cases heq
 have pL:(entries.eraseIdxIfInBounds i).toList=entries.toList.eraseIdx i:=by simp
 rw[CA kj hk]
 refine⟨_,clock,rfl,?_,?_,?_,?_⟩
 ·rw[pL,ij,ij,rK]
 ·rw[ij];exact kj.eraseIdx _
 ·intro e' MI;rw[pL]at MI;exact k9 e' (List.mem_of_mem_eraseIdx MI)
 ·rw[pL,ij];exact HB.eraseIdx _
def P9{t kt et:TypeId}{bR:Ty}{x y:Operand}{t2:TypeId}{b:Nat}{es:List (κ × Value)}{key:κ}{qi:Value}(i:Nat)(Ah:mG P kt kv)(hS:∀w,Sat G w H'→Sx rest S w)(hx:ev L x=some (.map (some b)))(hy:ev L y=some qi)(OU:qi=kv key)(ht:U.get t=some bR)(hu:bR.gA = .map kt et)(hi:cE H i=some (aP kv b es))(hp:lH i (aP kv b (rL es key)) H [] = .mk H')(h:J P f n R G S all rest k L H'):J P f n R G S all (.cons false true ⟨none,.call { callee := .builtin .delete,args := #[x,y],argTypes := #[t,t2] },ty,pos,af,gd⟩ rest) k L H:=by
 intro a w ha hw _
 subst OU
 obtain⟨o,hm,hb⟩:=hw.o8 hi
 have zY:=hm
 obtain⟨entries,clock,rfl,rK,kj,k9,HB⟩:=hm
 have XP:entries.toList.map (·.key)=(es.map (·.1)).map kv:=by
  have:=congrArg (List.map (·.1)) rK
  simpa[Function.comp_def]using this
 obtain⟨r,hr,iL⟩:=Ah.find key entries.toList (es.map (·.1)) w XP
 have ir:∀o',(setObj b o').run P w = .ok () { w with heap:=w.heap.setIfInBounds b o' }:=fun o'=>by simp[setObj,Sem.run,hb]
 refine .inl ⟨.inl rfl,.inr ⟨rfl,?_⟩⟩
 rcases iL with⟨rfl,hn⟩|⟨j,e,rfl,hj,hk,de⟩
 ·have hs:=hw.B9 hi (o' := .map entries clock) (es':=rL es key) (by rw[LP hn];exact zY) hp
  have:(execOp a.eval ⟨none,.call { callee := .builtin .delete,args := #[x,y],argTypes := #[t,t2] },ty,pos,af,gd⟩).run P w = .ok (.value (.tuple #[])) { w with heap:=w.heap.setIfInBounds b (.map entries clock) }:=by
   simp only[execOp,resolve,invoke,builtin,Sem.run_bind,Sem.run_pure,Result.andThen_ok,List.map_toArray,List.map_cons,List.map_nil,ha.ev hx,ha.ev hy,Builtin.delete_,List.getElem?_toArray,List.getElem?_cons_zero,List.getElem?_cons_succ,
    run_underlying ht,hu,run_getObj_map hb,Ah.check,hr,ir]
  exact iD this ⟨hS _ hs,h a _ ha hs (hS _ hs)⟩
 ·have hs:=hw.B9 hi (N9 zY hj hk) hp
  have:(execOp a.eval ⟨none,.call { callee := .builtin .delete,args := #[x,y],argTypes := #[t,t2] },ty,pos,af,gd⟩).run P w = .ok (.value (.tuple #[])) { w with heap:=w.heap.setIfInBounds b (.map (entries.eraseIdxIfInBounds j) clock) }:=by
   simp only[execOp,resolve,invoke,builtin,Sem.run_bind,Sem.run_pure,Result.andThen_ok,List.map_toArray,List.map_cons,List.map_nil,ha.ev hx,ha.ev hy,Builtin.delete_,List.getElem?_toArray,List.getElem?_cons_zero,List.getElem?_cons_succ,
    run_underlying ht,hu,run_getObj_map hb,Ah.check,hr,ir]
  exact iD this ⟨hS _ hs,h a _ ha hs (hS _ hs)⟩
def GG{t kt et:TypeId}{bR:Ty}{b:Nat}{es:List (κ × Value)}{o:Obj}{w:World}{rty:TypeId}(ht:U.get t=some bR)(hu:bR.gA = .map kt et)(hm:qd kv o es)(hb:w.heap[b]?=some o) :
  (Builtin.len_ #[t] rty #[.map (some b)]).run P w = .ok (.int .i64 es.length) w:=by
 obtain⟨entries,clock,rfl,rK,kj,k9,HB⟩:=hm
 have hl:entries.size=es.length:=by have:=congrArg List.length rK;simpa using this
 simp[Builtin.len_,run_underlying ht,hu,run_getObj_map hb,goInt,hl]
def Mk{t kt et:TypeId}{bR:Ty}{x:Operand}{b:Nat}{es:List (κ × Value)}(hd:Nat.blt d n=true)(hx:ev L x=some (.map (some b)))(ht:U.get t=some bR)(hu:bR.gA = .map kt et)(hi:∀w,Sat G w H→∃o,qd kv o es∧w.heap[b]?=some o)(h:J P f n R G S all rest k ((d,.int .i64 es.length)::L) H):J P f n R G S all (.cons false true ⟨some d,.call { callee := .builtin .len,args := #[x],argTypes := #[t] },ty,pos,af,gd⟩ rest) k L H :=
 kJ hd (fun a w ha hw=>by
  obtain⟨o,hm,hb⟩:=hi w hw
  simp[execOp,resolve,invoke,builtin,ha.ev hx,GG (P:=P) ht hu hm hb]) h
def bP(kv:κ→Value)(b it:Nat)(es:List (κ × Value))(done:List κ):HP:=fun h =>
 ∃entries clock seen,qd kv (.map entries clock) es∧(∀(i:Nat) (e:MapEntry) (x:κ × Value),entries.toList[i]?=some e→es[i]?=some x→(seen.contains e.born=true↔x.1∈done)) ∧
  (∀key,done.head?=some key→∃e∈entries.toList,e.key=kv key∧seen.back?=some e.born) ∧
  star (ae b (.map entries clock)) (ae it (.mapIter (some b) clock seen clock)) h
def qW{b it:Nat}{es:List (κ × Value)}{done:List κ}:∀h,bP kv b it es done h→∃h',sub h' h∧aP kv b es h':=by
 rintro h⟨entries,clock,seen,hm,_,_,hs⟩
 obtain⟨h',s,hp⟩:=kp hs
 exact⟨h',s,_,hm,hp⟩
def xu{t kt et:TypeId}{bR:Ty}{x:Operand}{b:Nat}{es:List (κ × Value)}(i:Nat)(hd:Nat.blt d n=true)(hx:ev L x=some (.map (some b)))(ht:U.get t=some bR)(hu:bR.gA = .map kt et)(hi:cE H i=some (aP kv b es)){Hf:Nat→List HP}(hp:∀it,lH i (bP kv b it es []) H [] = .mk (Hf it))(hS:∀it w,Sat G w (Hf it)→Sx rest S w)(h:∀it,J P f n R G S all rest k ((d,.pointer (some ⟨it,0,none⟩))::L) (Hf it)):J P f n R G S all (.cons false true ⟨some d,.range t x,ty,pos,af,gd⟩ rest) k L H:=by
 refine oz hd (fun u H1=>∃it,u = .pointer (some ⟨it,0,none⟩)∧H1=Hf it) (fun a w ha hw=>?_) ?_ ?_
 ·obtain⟨o,hm,hb⟩:=hw.o8 hi
  have Af:=hw.cV (al.perm (dj (by rw[← dM];exact hi)))
  obtain⟨hT,hO,RY,hh,eF,h1,h2,⟨o',ho',wA⟩,hB,X2,hj⟩:=Af
  have hoo:o'=o:=by
   have:w.heap[b]?=some o':=eF b o' (by rw[hj b,wA b];simp)
   rw[hb]at this;cases this;rfl
  subst hoo
  have uH:Sat G w (ae b o'::H.eraseIdx i):=⟨hT,hO,RY,hh,eF,h1,h2,wA,hB,X2,hj⟩
  obtain⟨entries,clock,rfl,gS⟩:=hm
  refine⟨_,{ w with heap:=w.heap.push (.mapIter (some b) clock #[] clock) },Hf w.heap.size,?_,⟨w.heap.size,rfl,rfl⟩,?_⟩
  ·simp only[execOp,ha.ev hx,Instr.range,Sem.run_bind,run_underlying ht,Result.andThen_ok,hu,run_getObj_map hb,Sem.run_pure,run_newObj]
  ·have h3:=uH.alloc (.mapIter (some b) clock #[] clock)
   have h4:=oQ i _ _ H [] (Hf w.heap.size) (hp _) hi
   refine(h3.cV ?_).cV (al.perm (by simpa using h4.symm))
   refine(al.perm (List.Perm.swap _ _ _)).trans ?_
   refine al.fold (B:=[_,_]) fun h hs=>⟨h,sub.refl h,entries,clock,#[],⟨entries,clock,rfl,gS⟩,fun i e x _ _=>by simp,by simp,?_⟩
   exact fu (fun _ h=>h) (fun _ h=>eU h) hs
 ·rintro u H1 w⟨it,rfl,rfl⟩ hw;exact hS it w hw
 ·rintro u H1⟨it,rfl,rfl⟩;exact h it
def xA{x:Operand}{b it:Nat}{es:List (κ × Value)}{done:List κ}{key:κ}{v:Value}(i:Nat)(hd:Nat.blt d n=true)(abE:∀a b,kv a=kv b→a=b)(hx:ev L x=some (.pointer (some ⟨it,0,none⟩)))(hi:cE H i=some (bP kv b it es (key::done)))(hv:(key,v)∈es)(h:J P f n R G S all rest k ((d,.tuple #[kv key,v])::L) H):J P f n R G S all (.cons false true ⟨some d,.entry x,ty,pos,af,gd⟩ rest) k L H :=
 kJ hd (fun a w ha hw=>by
  have Af:=hw.cV (al.perm (dj (by rw[← dM];exact hi)))
  obtain⟨hT,hO,RY,hh,eF,h1,h2,hA,hB,X2,hj⟩:=Af
  obtain⟨entries,clock,seen,hm,Je,k8,h3,h4,nX,Le,RS,Bf⟩:=hA
  have hb:w.heap[b]?=some (.map entries clock):=eF b _ (by rw[hj b,Bf b,nX b];simp)
  have Lg:w.heap[it]?=some (.mapIter (some b) clock seen clock):=by
   refine eF it _ ?_
   rw[hj it,Bf it,Le it]
   rcases RS it with e|e
   ·rw[e];simp
   ·rw[Le it]at e;simp at e
  obtain⟨ub,CH,heq,rK,kj,k9,HB⟩:=hm
  cases heq
  have hgm:=run_getObj_map (P:=P) hb
  have Tn:(getObj it).run P w = .ok (.mapIter (some b) clock seen clock) w:=by simp[getObj,Sem.run,Lg]
  obtain⟨e,he,hek,ji⟩:=k8 key rfl
  -- the cell's value
  obtain⟨j,xe⟩:=List.getElem?_of_mem he
  have hev:e.val=v:=by
   have h6:=congrArg (·[j]?) rK
   simp only[List.getElem?_map,xe,Option.map_some]at h6
   cases rE:es[j]? with
   | none=>rw[rE]at h6;cases h6
   | some x2 =>
    rw[rE]at h6
    simp only[Option.map_some,Option.some.injEq,Prod.mk.injEq]at h6
    have Zd:x2.1=key:=abE _ _ (h6.1.symm.trans hek)
    obtain⟨j2,Cq⟩:=List.getElem?_of_mem hv
    have R6:(es.map (·.1))[j]?=(es.map (·.1))[j2]? := by simp only[List.getElem?_map,rE,Cq,Option.map_some,Zd]
    have Yk:j=j2:=(List.getElem?_inj (by
     have:j<es.length:=by
      rcases Nat.lt_or_ge j es.length with h|h
      ·exact h
      ·rw[List.getElem?_eq_none h]at rE;cases rE
     rw[List.length_map];exact this) kj).1 R6
    subst Yk
    rw[rE]at Cq
    cases Cq
    exact h6.2
  have yO:entries.find? (fun x=>x.born == e.born)=some e:=by
   rw[← Array.find?_toList]
   cases hf:entries.toList.find? (fun x=>x.born == e.born)with
   | none=>have:=List.find?_eq_none.1 hf e he;simp at this
   | some e2 =>
    have h1:=List.find?_some hf
    have h2:=List.mem_of_find?_eq_some hf
    simp only[beq_iff_eq]at h1
    obtain⟨j2,Cq⟩:=List.getElem?_of_mem h2
    have R6:(entries.toList.map (·.born))[j2]?=(entries.toList.map (·.born))[j]? := by simp only[List.getElem?_map,xe,Cq,Option.map_some,h1]
    have Yk:j2=j:=(List.getElem?_inj (by
     have:j2<entries.toList.length:=by
      rcases Nat.lt_or_ge j2 entries.toList.length with h|h
      ·exact h
      ·rw[List.getElem?_eq_none h]at Cq;cases Cq
     rw[List.length_map];exact this) HB).1 R6
    subst Yk
    rw[xe]at Cq
    cases Cq
    rfl
  simp only[execOp,ha.ev hx,Instr.entry,Sem.run_bind,Tn,hgm,Result.andThen_ok,ji,yO,Sem.run_pure,hek,hev,bne_self_eq_false,Bool.false_eq_true,if_false]) h
def C5{x:Operand}{b it:Nat}{es:List (κ × Value)}{done:List κ}(i:Nat)(hd:Nat.blt d n=true)(abE:∀a b,kv a=kv b→a=b)(hx:ev L x=some (.pointer (some ⟨it,0,none⟩)))(hi:cE H i=some (bP kv b it es done)){Hf:κ→List HP}(hp:∀key,lH i (bP kv b it es (key::done)) H [] = .mk (Hf key))(hS0:∀w,Sat G w H→Sx rest S w)(hS:∀key w,Sat G w (Hf key)→Sx rest S w)(iK:(∀y∈es,y.1∈done)→J P f n R G S all rest k ((d,.tuple #[.bool false])::L) H)(hgo:∀key v,(key,v)∈es→key ∉ done→J P f n R G S all rest k ((d,.tuple #[.bool true,kv key,v])::L) (Hf key)) :
  J P f n R G S all (.cons false true ⟨some d,.next x false,ty,pos,af,gd⟩ rest) k L H:=by
 intro a w ha hw _
 refine .inl ⟨.inl rfl,.inr ⟨rfl,?_⟩⟩
 have Af:=hw.cV (al.perm (dj (by rw[← dM];exact hi)))
 obtain⟨hT,hO,RY,hh,eF,h1,h2,hA,hB,X2,hj⟩:=Af
 obtain⟨entries,clock,seen,hm,Je,_,h3,h4,nX,Le,RS,Bf⟩:=hA
 have hb:w.heap[b]?=some (.map entries clock):=eF b _ (by rw[hj b,Bf b,nX b];simp)
 have Lg:w.heap[it]?=some (.mapIter (some b) clock seen clock):=by
  refine eF it _ ?_
  rw[hj it,Bf it,Le it]
  rcases RS it with e|e
  ·rw[e];simp
  ·rw[Le it]at e;simp at e
 obtain⟨ub,CH,heq,rK,kj,k9,HB⟩:=hm
 cases heq
 have hgm:=run_getObj_map (P:=P) hb
 have Tn:(getObj it).run P w = .ok (.mapIter (some b) clock seen clock) w:=by simp[getObj,Sem.run,Lg]
 have fH:(!seen.isEmpty && !entries.isEmpty && entries.all (·.born≥clock))=false:=by
  cases he:entries.isEmpty with
  | true=>simp
  | false =>
   have bY:entries.toList≠[]:=by simpa[Array.isEmpty_iff]using he
   obtain⟨e,l,pL⟩:=List.exists_cons_of_ne_nil bY
   have h5:=k9 e (by rw[pL];simp)
   have:entries.all (fun x=>decide (x.born≥clock))=false:=by
    rw[← Array.all_toList,pL]
    simp
    intro h;omega
   rw[this];simp
 have hold:∀(l:Array MapEntry),(∀e∈l.toList,e∈entries.toList)→l.filter (·.born<clock)=l∧l.filter (·.born≥clock) = #[]:=by
  intro l hl
  constructor
  ·apply Array.filter_eq_self.2
   intro e he;simpa using k9 e (hl e (by simpa using he))
  ·apply Array.filter_eq_empty_iff.2
   intro e he;have:=k9 e (hl e (by simpa using he));simp;omega
 have Tj:=hold (entries.filter fun e => !seen.contains e.born) (fun e he=>by simp at he;simpa using he.1)
 -- the entry that comes, if one does
 have abo:∀e,e∈entries.toList→∃(j:Nat) (x:κ × Value),entries.toList[j]?=some e∧es[j]?=some x∧x∈es∧e.key=kv x.1∧e.val=x.2∧(seen.contains e.born=true↔x.1∈done):=by
  intro e he
  obtain⟨j,xe⟩:=List.getElem?_of_mem he
  have h6:=congrArg (·[j]?) rK
  simp only[List.getElem?_map,xe,Option.map_some]at h6
  cases rE:es[j]? with
  | none=>rw[rE]at h6;cases h6
  | some x2 =>
   rw[rE]at h6
   simp only[Option.map_some,Option.some.injEq,Prod.mk.injEq]at h6
   exact⟨j,x2,xe,rE,List.mem_of_getElem? rE,h6.1,h6.2,Je j e x2 xe rE⟩
 have aa4:∀x,x∈es→∃e,e∈entries.toList∧e.key=kv x.1∧(seen.contains e.born=true↔x.1∈done):=by
  intro x2 rE
  obtain⟨j,xe⟩:=List.getElem?_of_mem rE
  have h6:=congrArg (·[j]?) rK
  simp only[List.getElem?_map,xe,Option.map_some]at h6
  cases he:entries.toList[j]? with
  | none=>rw[he]at h6;cases h6
  | some e =>
   rw[he]at h6
   simp only[Option.map_some,Option.some.injEq,Prod.mk.injEq]at h6
   exact⟨e,List.mem_of_getElem? he,h6.1,Je j e x2 he xe⟩
 have abb:(execOp a.eval ⟨some d,.next x false,ty,pos,af,gd⟩)=(do let v ← Instr.next (.pointer (some ⟨it,0,none⟩)) false ty;pure (.value v)):=by simp only[execOp,ha.ev hx]
 refine lW (fun c hc=>by cases hc) rfl ?_
 rw[abb]
 simp only[Sem.run_bind,Instr.next,Tn,Result.andThen_ok,hgm,fH,Bool.false_eq_true,if_false,Tj.1,Tj.2,Array.append_empty]
 by_cases ET:(entries.filter fun e => !seen.contains e.born).isEmpty=true
 ·have he:(entries.filter fun e => !seen.contains e.born) = #[]:=Array.isEmpty_iff.1 ET
  have abQ:∀y∈es,y.1∈done:=by
   intro y hy
   obtain⟨e,hem,_,O0⟩:=aa4 y hy
   apply O0.1
   cases hc:seen.contains e.born with
   | true=>rfl
   | false =>
    have:e∈(entries.filter fun e => !seen.contains e.born):=by simp only[Array.mem_filter];exact⟨by simpa using hem,by rw[hc];rfl⟩
    rw[he]at this;simp at this
  have:=iK abQ
  simp only[he,Array.isEmpty_empty,if_true,Array.map_empty,Array.append_empty,Sem.run_bind,run_choose]
  simp only[Question.forced,List.size_toArray,List.length_singleton,Nat.le_refl,decide_true,if_true,Result.andThen_ok,List.getElem?_toArray,List.getElem?_cons_zero,Sem.run_pure]
  exact⟨hS0 w hw,this _ w (ha.put hd _) hw (hS0 w hw)⟩
 ·have O2:(entries.filter fun e => !seen.contains e.born).isEmpty=false:=by simpa using ET
  obtain⟨q,w1,hq,A9,RT⟩:∃q w1,q<(entries.filter fun e => !seen.contains e.born).size∧(w1=w∨w1=w.drew) ∧
    (choose (.mapNext ((entries.filter fun e => !seen.contains e.born).map some).size)).run P w = .ok q w1:=by
   have lu:0<(entries.filter fun e => !seen.contains e.born).size:=by
    rcases Nat.eq_zero_or_pos (entries.filter fun e => !seen.contains e.born).size with h|h
    ·have:=Array.eq_empty_of_size_eq_zero h;rw[this]at O2;simp at O2
    ·exact h
   simp only[run_choose,Array.size_map]
   by_cases hf:(Question.mapNext (entries.filter fun e => !seen.contains e.born).size).forced=true
   ·exact⟨0,w,lu,.inl rfl,by rw[if_pos hf]⟩
   ·exact⟨_,w.drew,Nat.mod_lt _ lu,.inr rfl,by rw[if_neg hf];rfl⟩
  have EN:((entries.filter fun e => !seen.contains e.born).map some)[q]?=some (some (entries.filter fun e => !seen.contains e.born)[q]):=by simp[hq]
  generalize hE:(entries.filter fun e => !seen.contains e.born)[q]=e at EN
  have Tg:e∈(entries.filter fun e => !seen.contains e.born):=by rw[← hE];exact Array.getElem_mem hq
  simp only[Array.mem_filter]at Tg
  obtain⟨OR,OQ⟩:=Tg
  obtain⟨i3,x2,hi3,hx3,rE,sM,rW,abF⟩:=abo e (by simpa using OR)
  have adB:x2.1 ∉ done:=fun h=>by have:=abF.2 h;rw[this]at OQ;cases OQ
  have abI:=hgo x2.1 x2.2 rE adB
  simp only[O2,Bool.false_eq_true,if_false,Array.empty_append,Sem.run_bind]
  rw[RT]
  have ir:(setObj it (.mapIter (some b) clock (seen.push e.born) clock)).run P w1 = .ok () { w1 with heap:=w1.heap.setIfInBounds it (.mapIter (some b) clock (seen.push e.born) clock) }:=by
   have:w1.heap[it]?=some (.mapIter (some b) clock seen clock):=by rcases A9 with rfl|rfl <;> exact Lg
   simp[setObj,Sem.run,this]
  simp only[Result.andThen_ok,EN,Sem.run_bind,ir,Sem.run_pure,sM,rW]
  have OD:Sat G { w1 with heap:=w1.heap.setIfInBounds it (.mapIter (some b) clock (seen.push e.born) clock) } (Hf x2.1):=by
   have acU:Sat G w1 (ae it (.mapIter (some b) clock seen clock)::ae b (.map entries clock)::H.eraseIdx i):=by
    have h7:Sat G w (ae it (.mapIter (some b) clock seen clock)::ae b (.map entries clock)::H.eraseIdx i):=by
     refine⟨hT,hO,RY,hh,eF,?_⟩
     have h8:star (star (ae b (.map entries clock)) (ae it (.mapIter (some b) clock seen clock))) (Sep (H.eraseIdx i)) hh:=⟨h1,h2,⟨h3,h4,nX,Le,RS,Bf⟩,hB,X2,hj⟩
     exact AK (kU h8)
    rcases A9 with rfl|rfl
    ·exact h7
    ·exact h7.draw _
   have h9:=acU.BW (o' := .mapIter (some b) clock (seen.push e.born) clock)
   have h10:=oQ i _ _ H [] (Hf x2.1) (hp _) hi
   refine(h9.cV ?_).cV (al.perm (by simpa using h10.symm))
   refine(al.perm (List.Perm.swap _ _ _)).trans ?_
   refine al.fold (B:=[_,_]) fun h hs=>⟨h,sub.refl h,entries,clock,seen.push e.born,⟨entries,clock,rfl,rK,kj,k9,HB⟩,?_,?_,?_⟩
   ·intro i2 e2 y2 Al yF
    have OL:=Je i2 e2 y2 Al yF
    simp only[Array.contains_eq_mem,Array.mem_push,decide_eq_true_eq,List.mem_cons]at OL ⊢
    constructor
    ·rintro(h|h)
     ·exact .inr (OL.1 h)
     ·left
      -- the borns are one, so the entries are
      have R6:(entries.toList.map (·.born))[i2]?=(entries.toList.map (·.born))[i3]? := by simp only[List.getElem?_map,Al,hi3,Option.map_some,h]
      have Yk:i2=i3:=(List.getElem?_inj (by
       have:i2<entries.toList.length:=by
        rcases Nat.lt_or_ge i2 entries.toList.length with h|h
        ·exact h
        ·rw[List.getElem?_eq_none h]at Al;cases Al
       rw[List.length_map];exact this) HB).1 R6
      subst Yk
      rw[hx3]at yF;cases yF;rfl
    ·rintro(h|h)
     ·right
      have R6:(es.map (·.1))[i2]?=(es.map (·.1))[i3]? := by simp only[List.getElem?_map,yF,hx3,Option.map_some,h]
      have Yk:i2=i3:=(List.getElem?_inj (by
       have:i2<es.length:=by
        rcases Nat.lt_or_ge i2 es.length with h|h
        ·exact h
        ·rw[List.getElem?_eq_none h]at yF;cases yF
       rw[List.length_map];exact this) kj).1 R6
      subst Yk
      rw[hi3]at Al;cases Al;rfl
     ·exact .inl (OL.2 h)
   ·intro key aby
    simp only[List.head?_cons,Option.some.injEq]at aby
    subst aby
    exact⟨e,by simpa using OR,sM,by simp⟩
   ·exact fu (fun _ h=>h) (fun _ h=>eU h) hs
  exact⟨hS _ _ OD,abI _ _ (ha.put hd _) OD (hS _ _ OD)⟩
end
end Go.SL
namespace Go.SL
section
variable{P:Program}{U:Tr}[hU:fX P U]{f:FuncId}{n:Nat}{R:Ending→World→Prop}{G:cJ}{k:List Item}{L:fJ}{H H':List HP}{S:World→Prop}{all:Array Oper}{rest:Pl}{ty:TypeId}{pos:String}{af:Array Edge}{gd:Option (Nat × Bool)}{m:Bool}{d:Tmp}
def ya{g:FuncId}{fn:Func}{e:Array Value→Sem Value}{vs:Array Value}{w:World}(hf:P.funcs[g]?=some fn)(hb:fn.body=none)(hn:(fn.name == "runtime.NumGoroutine")=false)(pK:(Extern.findNext fn).isNone=true)(he:Extern.find fn=some e) :
  (callFunc g vs).run P w=((e vs).run P w).andThen fun v w' => .ok (.value v) w':=by
 have adx:Extern.findNext fn=none:=Option.isNone_iff_eq_none.1 pK
 simp only[callFunc,Sem.run_bind,run_program,Result.andThen_ok,hf,hn,hb,Option.isNone_none,Bool.false_eq_true,if_false,if_true,run_mark,adx,he,Sem.run_pure]
def FL{κ:Type}[DecidableEq κ]{kv:κ→Value}{g:FuncId}{fn:Func}{args:Array Operand}{xJ:Array TypeId}{t:TypeId}{b:Nat}{es:List (κ × Value)}(i:Nat)(hd:Nat.blt d n=true)(hf:P.funcs[g]?=some fn)(hb:fn.body=none)(hn:(fn.name == "runtime.NumGoroutine")=false)(pK:(Extern.findNext fn).isNone=true)(he:Extern.find fn=some Extern.MapsClone.clone)(gT:Gg L args.toList [] = .mk [.iface t (.map (some b))])(hi:cE H i=some (aP kv b es))(hS:∀b' w,Sat G w (aP kv b' es::H)→Sx rest S w)(h:∀b',J P f n R G S all rest k ((d,.iface t (.map (some b')))::L) (aP kv b' es::H)) :
  J P f n R G S all (.cons false true ⟨some d,.call { callee := .value (.func g),args:=args,argTypes:=xJ },ty,pos,af,gd⟩ rest) k L H:=by
 refine oz hd (fun u H1=>∃b',u = .iface t (.map (some b'))∧H1=aP kv b' es::H) (fun a w ha hw=>?_) ?_ ?_
 ·obtain⟨o,hm,Lo⟩:=hw.o8 hi
  have zY:=hm
  obtain⟨entries,clock,rfl,rK,kj,k9,HB⟩:=hm
  refine⟨_,{ w with heap:=w.heap.push (.map entries clock) },_,?_,⟨w.heap.size,rfl,rfl⟩,?_⟩
  ·simp only[execOp,resolve,Sem.run_bind,Act.eval,Deferred.ofValue,Sem.run_pure,Result.andThen_ok,invoke]
   rw[show(args.map fun x=>a.eval x)=args.map a.eval from rfl]at *
   have hav:=nf ha _ _ gT
   rw[show Array.map a.eval args = #[.iface t (.map (some b))]from hav]
   simp only[Array.empty_append,Array.append_empty]
   rw[ya hf hb hn pK he]
   have lA:Extern.MapsClone.clone #[.iface t (.map (some b))]=(getObj b >>= fun o=>match o with
     | .map entries clock=>newObj (.map entries clock) >>= fun r=>pure (.iface t (.map (some r)))
     | _=>stuck "maps.clone: a map expected"):=rfl
   rw[lA]
   simp only[Sem.run_bind,run_getObj_map Lo,Result.andThen_ok,run_newObj,Sem.run_pure]
  ·have h3:=hw.alloc (.map entries clock)
   exact h3.cV (al.fold (B:=[_]) fun h hs=>⟨h,sub.refl h,_,zY,eU hs⟩)
 ·rintro u H1 w⟨b',rfl,rfl⟩ hw;exact hS b' w hw
 ·rintro u H1⟨b',rfl,rfl⟩;exact h b'
def Qa{x:Operand}{xt t:TypeId}{bR:Ty}{v:Value}(hd:Nat.blt d n=true)(hx:ev L x=some (.iface t v))(ht:U.get t=some bR)(hni:(match bR.gA with | .interface _=>false|_=>true)=true)(h:J P f n R G S all rest k ((d,v)::L) H):J P f n R G S all (.cons m true ⟨some d,.typeAssert x xt t false,ty,pos,af,gd⟩ rest) k L H :=
 dA hd (fun a ha w=>by
  simp only[execOp,ha.ev hx,Instr.typeAssert,Sem.run_bind,run_underlying ht,Result.andThen_ok]
  cases hu:bR.gA <;> simp_all) h
def Mh{x:Operand}{t:TypeId}{bR:Ty}{v:Value}(hd:Nat.blt d n=true)(hx:ev L x=some v)(ht:U.get t=some bR)(hni:(match bR.gA with | .interface _=>false|_=>true)=true)(h:J P f n R G S all rest k ((d,.iface t v)::L) H):J P f n R G S all (.cons m true ⟨some d,.makeInterface t x,ty,pos,af,gd⟩ rest) k L H :=
 dA hd (fun a ha w=>by
  simp only[execOp,ha.ev hx,Instr.makeInterface,Sem.run_bind,run_underlying ht,Result.andThen_ok]
  cases hu:bR.gA <;> simp_all) h
def Row(w:World)(b:Nat):Prop:=∃l e,w.heap[b]?=some (cl l e)
def DM{b1 o1 b2 o2:Nat}{w:World}(h1:Row w b1)(h2:Row w b2):(sameAddr ⟨b1,o1,none⟩ ⟨b2,o2,none⟩).run P w = .ok (decide (b1=b2∧o1=o2)) w:=by
 obtain⟨l1,e1,nX⟩:=h1
 obtain⟨l2,e2,rh⟩:=h2
 unfold sameAddr
 by_cases hb:b1=b2
 ·subst hb
  simp only[beq_self_eq_true,if_true,Sem.run_pure,true_and]
  congr 1
  rw[Bool.eq_iff_iff];simp
 ·have bY:(b1 == b2)=false:=by simpa using hb
  have f1:∀o,w.frozen? ⟨b1,o,none⟩=false:=fun o=>lB nX
  have f2:∀o,w.frozen? ⟨b2,o,none⟩=false:=fun o=>lB rh
  have s1:w.shape? b1=some (e1,l1.length):=by simp[World.shape?,nX,cl]
  have s2:w.shape? b2=some (e2,l2.length):=by simp[World.shape?,rh,cl]
  simp[bY,f1,f2,noView,viewAt,s1,s2,mayBeOne,stringish,hb]
def SD{x y:Operand}{t yt el:TypeId}{bR te:Ty}{b1 o1 b2 o2:Nat}(hd:Nat.blt d n=true)(hx:ev L x=some (.pointer (some ⟨b1,o1,none⟩)))(hy:ev L y=some (.pointer (some ⟨b2,o2,none⟩)))(ht:U.get t=some bR)(hu:bR.gA = .pointer el)(he:U.get el=some te)(iB:Nat.beq te.info.size 0=false)(h1:∀w,Sat G w H→Row w b1)(h2:∀w,Sat G w H→Row w b2)(h:J P f n R G S all rest k ((d,.bool (decide (b1=b2∧o1=o2)))::L) H):J P f n R G S all (.cons false true ⟨some d,.binOp .eql t x y yt,ty,pos,af,gd⟩ rest) k L H :=
 kJ hd (fun a w ha hw=>by
  have hr:=DM (P:=P) (o1:=o1) (o2:=o2) (h1 w hw) (h2 w hw)
  have bY:te.info.size≠0:=Nat.ne_of_beq_eq_false iB
  have heq:(Op.equal t (.pointer (some ⟨b1,o1,none⟩)) (.pointer (some ⟨b2,o2,none⟩))).run P w = .ok (decide (b1=b2∧o1=o2)) w:=by
   unfold Op.equal Op.maxDepth Op.equalIn
   simp only[Sem.run_bind,run_underlying ht,Result.andThen_ok,hu,run_sizeOf he,ne_eq,bY,not_false_eq_true,if_true,hr]
  have hg:(eqGuard .eql t x y (.pointer (some ⟨b1,o1,none⟩)) (.pointer (some ⟨b2,o2,none⟩))).run P w = .ok () w:=by simp[eqGuard]
  have hb:(binOp .eql t (.pointer (some ⟨b1,o1,none⟩)) (.pointer (some ⟨b2,o2,none⟩))).run P w = .ok (.bool (decide (b1=b2∧o1=o2))) w:=by
   simp only[binOp,Sem.run_bind,heq,Result.andThen_ok,Sem.run_pure]
  simp only[execOp,ha.ev hx,ha.ev hy,Sem.run_bind,hg,hb,Result.andThen_ok,Sem.run_pure]) h
def JV{x:Operand}{t elem:TypeId}{bR te:Ty}{z:Value}{b o nn cap:Nat}{l l':List Value}{e:TypeId}(i:Nat)(hS:∀w,Sat G w H'→Sx rest S w)(hx:ev L x=some (.slice (some ⟨b,o,none⟩) nn cap))(ht:U.get t=some bR)(hu:bR.gA = .slice elem)(he:U.get elem=some te)(hz:te.info.zero=some z)(MD:Nat.beq (bp z).length te.info.size=true)(gw:iN (bp z)=true)(hi:cE H i=some (ae b (cl l e)))(yN:o+nn*te.info.size≤l.length)(Ld:l'=l.take o++(List.replicate nn (bp z)).flatten++l.drop (o+nn*te.info.size))(hp:lH i (ae b (cl l' e)) H [] = .mk H')(h:J P f n R G S all rest k L H'):J P f n R G S all (.cons false true ⟨none,.call { callee := .builtin .clear,args := #[x],argTypes := #[t] },ty,pos,af,gd⟩ rest) k L H:=by
 intro a w ha hw _
 have acO:(bp z).length=te.info.size:=Nat.eq_of_beq_eq_true MD
 have Hy:(Builtin.zeroCells z.cells nn).toList=(List.replicate nn (bp z)).flatten:=by
  have j7:z.cells.size=(bp z).length:=by rw[dQ];simp
  unfold Builtin.zeroCells
  simp only[Array.toList_map,Array.toList_range,j7]
  rw[dQ]
  induction nn with
  | zero=>simp
  | succ nn ih =>
   clear ih
   rw[List.replicate_succ',List.flatten_append]
   have adO:∀q,List.map (fun i=>(bp z).toArray[i%(bp z).length]!) (List.range (q*(bp z).length))=(List.replicate q (bp z)).flatten:=by
    intro q
    induction q with
    | zero=>simp
    | succ q ih =>
     rw[List.replicate_succ',List.flatten_append,← ih,Nat.succ_mul,List.range_add,List.map_append]
     congr 1
     simp only[List.map_map,List.flatten_cons,List.flatten_nil,List.append_nil]
     apply List.ext_getElem?
     intro j
     by_cases hj:j<(bp z).length
     ·simp only[List.getElem?_map,List.getElem?_range hj,Option.map_some,Function.comp]
      rw[Nat.mul_comm,Nat.mul_add_mod,Nat.mod_eq_of_lt hj]
      simp[hj]
     ·rw[List.getElem?_eq_none (by simp;omega),List.getElem?_eq_none ag]
   have:=adO (nn+1)
   rw[List.replicate_succ',List.flatten_append]at this
   exact this
 have hlen:((List.replicate nn (bp z)).flatten).length=nn*te.info.size:=by simp[acO]
 have cK:=gH (P:=P) ((List.replicate nn (bp z)).flatten) 0 o l w (hw.tW hi) (by rw[hlen];simpa using yN) (fun u hu=>by
  simp only[List.mem_flatten,List.mem_replicate]at hu
  obtain⟨l2,⟨_,rfl⟩,hu⟩:=hu
  exact wh gw u hu)
 simp only[Nat.add_zero,hlen,← Ld]at cK
 have hs:=hw.put hi hp
 refine .inl ⟨.inl rfl,.inr ⟨rfl,?_⟩⟩
 by_cases h0:nn=0
 ·subst h0
  have hll:l'=l:=by rw[Ld];simp
  subst hll
  have hss:Sat G w H':=by
   have hb:=hw.tW hi
   have de:b<w.heap.size:=by
    rcases Nat.lt_or_ge b w.heap.size with h'|h'
    ·exact h'
    ·rw[Array.getElem?_eq_none h']at hb;cases hb
   have Lo:w.heap[b]=cl l' e:=by rw[Array.getElem?_eq_getElem de]at hb;exact Option.some.inj hb
   have:w.heap.setIfInBounds b (cl l' e)=w.heap:=by rw[← Lo];simp[Array.setIfInBounds,de]
   rw[this]at hs;exact hs
  have:(execOp a.eval ⟨none,.call { callee := .builtin .clear,args := #[x],argTypes := #[t] },ty,pos,af,gd⟩).run P w = .ok (.value (.tuple #[])) w:=by
   simp[execOp,resolve,invoke,builtin,ha.ev hx,Builtin.clear_,run_underlying ht,hu]
  exact iD this ⟨hS _ hss,h a _ ha hss (hS _ hss)⟩
 ·have:(execOp a.eval ⟨none,.call { callee := .builtin .clear,args := #[x],argTypes := #[t] },ty,pos,af,gd⟩).run P w = .ok (.value (.tuple #[])) { w with heap:=w.heap.setIfInBounds b (cl l' e) }:=by
   obtain⟨q,rfl⟩:∃q,nn=q+1:=⟨nn-1,ag⟩
   simp only[execOp,resolve,invoke,builtin,Sem.run_bind,Sem.run_pure,Result.andThen_ok,List.map_toArray,List.map_cons,List.map_nil,ha.ev hx,Builtin.clear_,List.getElem?_toArray,List.getElem?_cons_zero,run_underlying ht,hu,dU he hz,Hy,cK]
  exact iD this ⟨hS _ hs,h a _ ha hs (hS _ hs)⟩
end
end Go.SL
