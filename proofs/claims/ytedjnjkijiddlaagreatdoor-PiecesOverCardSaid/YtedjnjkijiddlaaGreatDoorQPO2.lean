import Derived.Test.YtedjnjkijiddlaaGreatDoorQPO1
import Derived.IntWalk
import Derived.Laws.BytesString
import Derived.Laws.IdiomStrings
set_option linter.unusedSectionVars false
set_option linter.unusedSimpArgs false
set_option linter.unusedVariables false
namespace Go.SL
inductive abA where
 | mk (H:List HP)
 | no
def Rp:List HP→List HP→abA
 | [],l => .mk l
 | x::acc,l=>Rp acc (x::l)
def lh:Nat→HP→List HP→List HP→abA
 | _,_,[],_ => .no
 | 0,A,_::l,acc=>Rp acc (A::l)
 | i+1,A,B::l,acc=>lh i A l (B::acc)
theorem Ro(acc l r:List HP)(h:Rp acc l = .mk r):r=acc.reverse++l:=by
 induction acc generalizing l with
 | nil=>simp[Rp]at h;simp[h]
 | cons x acc ih=>have:=ih (x::l) h;simp[this]
theorem oz(i:Nat)(A B:HP)(H acc r:List HP)(h:lh i A H acc = .mk r)(hB:cq H i=some B):r.Perm (A::(acc.reverse++H.eraseIdx i)):=by
 induction H generalizing i acc with
 | nil=>cases i <;> simp[lh]at h
 | cons C l ih =>
  cases i with
  | zero =>
   simp only[lh]at h
   rw[Ro _ _ _ h]
   simp only[List.eraseIdx_cons_zero]
   exact List.perm_middle
  | succ i =>
   simp only[lh]at h
   simp only[cq]at hB
   have:=ih i (C::acc) h hB
   simpa using this
theorem Sat.put{G:cC}{w:World}{H H':List HP}{i:Nat}{b:Nat}{o o':Obj}(hs:Sat G w H)(hi:cq H i=some (ag b o))(hp:lh i (ag b o') H [] = .mk H') :
  Sat G { w with heap:=w.heap.setIfInBounds b o' } H':=by
 have h1:=hs.set (o':=o') (i:=i) (by rw[← dA];exact hi)
 have h2:=oz i _ _ H [] H' hp hi
 exact h1.cy (ao.perm (by simpa using h2.symm))
def dL(h:Hp)(b off:Nat):Option Value:=match h b with
 | some (.cells c _ _)=>c[off]?
 | _=>none
def Vw(A:HP)(v:Value)(n:Nat)(cs:List Value):Prop :=
 ∃a cap,v = .slice a n cap∧(cs=[]∨∃b o,a=some ⟨b,o,none⟩∧∀h,A h→∀j c,cs[j]?=some c→dL h b (o+j)=some c)
def aB(e:TypeId)(size:Nat)(v:Value)(n:Nat)(cs:List Value):HP:=fun h =>
 cs.length=n*size∧((∃a,v = .slice a 0 0∧n=0∧emp h) ∨
  ∃b o cap pre bQ,v = .slice (some ⟨b,o,none⟩) n cap∧pre.length=o∧n≤cap∧cap*size≤cs.length+bQ.length∧ag b (cl (pre++cs++bQ) e) h)
theorem dO{h:Hp}{w:World}{b off:Nat}{v:Value}(hw:∀b o,h b=some o→w.heap[b]?=some o)(hc:dL h b off=some v):w.cell? ⟨b,off,none⟩=some v:=by
 unfold dL at hc
 split at hc
 ·rename_i c e fr hb
  simp[World.cell?,hw b _ hb,hc]
 ·cases hc
theorem Sat.kQ{G:cC}{w:World}{H:List HP}(hs:Sat G w H){i:Nat}{A:HP}(hi:cq H i=some A):∃h:Hp,(∀b o,h b=some o→w.heap[b]?=some o)∧A h:=by
 rw[dA]at hi
 exact(hs.cy (ao.perm (cZ hi))).head
theorem Sat.tD{G:cC}{w:World}{H:List HP}(hs:Sat G w H){i:Nat}{b:Nat}{o:Obj}(hi:cq H i=some (ag b o)):w.heap[b]?=some o:=by
 rw[dA]at hi
 exact hs.get hi
def o5:List Value→Nat→Nat→List Value→LA
 | l,0,0,acc=>let _:=l;B0 acc []
 | x::l,0,m+1,acc=>o5 l 0 m (x::acc)
 | _::l,i+1,m,acc=>o5 l i m acc
 | [],_,_,_ => .no
theorem C1:∀(l:List Value) (i m:Nat) (acc r:List Value),o5 l i m acc = .mk r→r=acc.reverse++(l.drop i).take m∧i+m≤l.length:=by
 intro l
 induction l with
 | nil =>
  intro i m acc r h
  cases i with
  | zero=>cases m with
   | zero=>simp only[o5]at h;have:=qQ _ _ _ h;simp[this]
   | succ m=>simp[o5]at h
  | succ i=>cases m <;> simp[o5]at h
 | cons x l ih =>
  intro i m acc r h
  cases i with
  | zero=>cases m with
   | zero=>simp only[o5]at h;have:=qQ _ _ _ h;simp[this]
   | succ m =>
    simp only[o5]at h
    obtain⟨h1,h2⟩:=ih 0 m (x::acc) r h
    simp at h1 h2
    exact⟨by simp[h1],by simp;omega⟩
  | succ i =>
   have h':o5 l i m acc = .mk r:=by cases m <;> simpa[o5]using h
   obtain⟨h1,h2⟩:=ih i m acc r h'
   exact⟨by simp[h1],by simp;omega⟩
section
variable{P:Program}{U:Tr}[hU:fT P U]{f:FuncId}{n:Nat}{R:Ending→World→Prop}{G:cC}{k:List Item}{L:fC}{H H':List HP}{S:World→Prop}{all:Array Oper}{rest:Pl}{ty:TypeId}{pos:String}{af:Array Edge}{gd:Option (Nat × Bool)}{m:Bool}{d:Tmp}
theorem n6{op:Op}(hd:Nat.blt d n=true)(q:Value→List HP→Prop)(hv:∀a w,Has n L a→Sat G w H→∃v w' H',(execOp a.eval ⟨some d,op,ty,pos,af,gd⟩).run P w = .ok (.value v) w'∧q v H'∧Sat G w' H')(hS:∀v H' w,q v H'→Sat G w H'→Sx rest S w)(h:∀v H',q v H'→J P f n R G S all rest k ((d,v)::L) H'):J P f n R G S all (.cons false true ⟨some d,op,ty,pos,af,gd⟩ rest) k L H:=by
 intro a w ha hw _
 obtain⟨v,w',H',hr,hq,mu⟩:=hv a w ha.1 hw
 refine .inl ⟨.inl rfl,.inr ⟨rfl,?_⟩⟩
 exact ib hr ⟨hS v H' w' hq mu,h v H' hq _ w' (ha.put hd v) mu (hS v H' w' hq mu)⟩
theorem Pw{op:Op}(q:List HP→Prop)(hv:∀a w,Has n L a→Sat G w H→∃w' H',(execOp a.eval ⟨none,op,ty,pos,af,gd⟩).run P w = .ok .skip w'∧q H'∧Sat G w' H')(hS:∀H' w,q H'→Sat G w H'→Sx rest S w)(h:∀H',q H'→J P f n R G S all rest k L H'):J P f n R G S all (.cons false true ⟨none,op,ty,pos,af,gd⟩ rest) k L H:=by
 intro a w ha hw _
 obtain⟨w',H',hr,hq,mu⟩:=hv a w ha.1 hw
 refine .inl ⟨.inl rfl,.inr ⟨rfl,?_⟩⟩
 exact wpIn_skip hr ⟨hS H' w' hq mu,h H' hq a w' ha mu (hS H' w' hq mu)⟩
theorem ku{op:Op}{v:Value}(hd:Nat.blt d n=true)(hv:∀a w,Has n L a→Sat G w H→(execOp a.eval ⟨some d,op,ty,pos,af,gd⟩).run P w = .ok (.value v) w)(h:J P f n R G S all rest k ((d,v)::L) H):J P f n R G S all (.cons false true ⟨some d,op,ty,pos,af,gd⟩ rest) k L H:=by
 intro a w ha hw hS
 refine .inl ⟨.inl rfl,.inr ⟨rfl,?_⟩⟩
 exact ib (hv a w ha.1 hw) ⟨Sx.of hS,h _ w (ha.put hd v) hw (Sx.of hS)⟩
theorem lr{op:Op}{v:Value}(hd:Nat.blt d n=true)(hv:∀a w,Has n L a→S w→(execOp a.eval ⟨some d,op,ty,pos,af,gd⟩).run P w = .ok (.value v) w)(h:J P f n R G S all rest k ((d,v)::L) H):J P f n R G S all (.cons true true ⟨some d,op,ty,pos,af,gd⟩ rest) k L H:=by
 intro a w ha hw hS
 exact .inl ⟨.inl rfl,.inl ⟨rfl,v,fun w hw=>hv a w ha.1 hw,h _ w (ha.put hd v) hw (Sx.of hS)⟩⟩
theorem ov{t:TypeId}{bM:Ty}{b off:Nat}{v:Value}{w:World}(ht:U.get t=some bM)(hg:bM.isAgg=false)(hc:w.cell? ⟨b,off,none⟩=some v) :
  (Instr.loadAt t (.pointer (some ⟨b,off,none⟩))).run P w = .ok v w:=by
 simp[Instr.loadAt,Instr.sureAddr,loadVar,qA ht,hg,hc]
theorem eS{t:TypeId}{x:Operand}{b off:Nat}{bM:Ty}{l:List Value}{e:TypeId}{v:Value}(i:Nat)(hd:Nat.blt d n=true)(hx:ev L x=some (.pointer (some ⟨b,off,none⟩)))(hi:cq H i=some (ag b (cl l e)))(hv:cq l off=some v)(ht:U.get t=some bM)(hg:bM.isAgg=false)(h:J P f n R G S all rest k ((d,v)::L) H):J P f n R G S all (.cons false true ⟨some d,.load t x,ty,pos,af,gd⟩ rest) k L H :=
 ku hd (fun a w ha hw=>by
  have hc:w.cell? ⟨b,off,none⟩=some v:=by rw[dy (hw.tD hi),← dA];exact hv
  simp[execOp,ha.ev hx,ov ht hg hc]) h
theorem Cw{t:TypeId}{x:Operand}{b off:Nat}{bM:Ty}{v:Value}(hd:Nat.blt d n=true)(hx:ev L x=some (.pointer (some ⟨b,off,none⟩)))(hv:∀w,S w→w.cell? ⟨b,off,none⟩=some v)(ht:U.get t=some bM)(hg:bM.isAgg=false)(h:J P f n R G S all rest k ((d,v)::L) H):J P f n R G S all (.cons true true ⟨some d,.load t x,ty,pos,af,gd⟩ rest) k L H :=
 lr hd (fun a w ha hS=>by simp[execOp,ha.ev hx,ov ht hg (hv w hS)]) h
theorem wJ{t:TypeId}{x:Operand}{b off:Nat}{bM:Ty}{v:Value}(hd:Nat.blt d n=true)(hx:ev L x=some (.pointer (some ⟨b,off,none⟩)))(hv:∀w,Sat G w H→w.cell? ⟨b,off,none⟩=some v)(ht:U.get t=some bM)(hg:bM.isAgg=false)(h:J P f n R G S all rest k ((d,v)::L) H):J P f n R G S all (.cons false true ⟨some d,.load t x,ty,pos,af,gd⟩ rest) k L H :=
 ku hd (fun a w ha hS=>by simp[execOp,ha.ev hx,ov ht hg (hv w hS)]) h
theorem hD{Hs:List HP}{t:TypeId}{x:Operand}{b off:Nat}{bM:Ty}{l:List Value}{e:TypeId}{v:Value}(i:Nat)(hd:Nat.blt d n=true)(hx:ev L x=some (.pointer (some ⟨b,off,none⟩)))(hi:cq Hs i=some (ag b (cl l e)))(hv:cq l off=some v)(ht:U.get t=some bM)(hg:bM.isAgg=false)(h:J P f n R G (fun w=>Sat G w Hs) all rest k ((d,v)::L) H):J P f n R G (fun w=>Sat G w Hs) all (.cons true true ⟨some d,.load t x,ty,pos,af,gd⟩ rest) k L H :=
 Cw (U:=U) hd hx (fun w hw=>by rw[dy (hw.tD hi),← dA];exact hv) ht hg h
theorem im{t:TypeId}{bM:Ty}{b off:Nat}{cs:List Value}{w:World}(ht:U.get t=some bM)(hg:bM.isAgg=true)(hl:cs.length=bM.info.size)(hc:∀j v,cs[j]?=some v→w.cell? ⟨b,off+j,none⟩=some v) :
  (Instr.loadAt t (.pointer (some ⟨b,off,none⟩))).run P w = .ok (.agg cs.toArray) w:=by
 have h1:=run_loadCells_list (P:=P) w ⟨b,off,none⟩ cs (fun j v hj=>by
  have:=hc j v hj
  unfold Addr.add
  split
  ·rename_i h0;subst h0;simpa using this
  ·simpa using this)
 simp[Instr.loadAt,Instr.sureAddr,loadVar,qA ht,hg,run_sizeOf ht,← hl,h1]
theorem LN{t:TypeId}{x:Operand}{b off:Nat}{bM:Ty}{l:List Value}{e:TypeId}{cs:List Value}(i:Nat)(hd:Nat.blt d n=true)(hx:ev L x=some (.pointer (some ⟨b,off,none⟩)))(hi:cq H i=some (ag b (cl l e)))(ht:U.get t=some bM)(hg:bM.isAgg=true)(hv:o5 l off bM.info.size [] = .mk cs)(h:J P f n R G S all rest k ((d,.agg cs.toArray)::L) H):J P f n R G S all (.cons false true ⟨some d,.load t x,ty,pos,af,gd⟩ rest) k L H :=
 ku hd (fun a w ha hw=>by
  obtain⟨h1,h2⟩:=C1 _ _ _ _ _ hv
  simp only[List.reverse_nil,List.nil_append]at h1
  have hc:∀j v,cs[j]?=some v→w.cell? ⟨b,off+j,none⟩=some v:=fun j v hj=>by
   rw[dy (hw.tD hi)]
   rw[h1,List.getElem?_take]at hj
   split at hj
   ·simpa using hj
   ·cases hj
  have:=im (P:=P) ht hg (by rw[h1];simp;omega) hc
  simp[execOp,ha.ev hx,this]) h
theorem gm{b:Nat}{e:TypeId}:∀(vs:List Value) (i off:Nat) (l:List Value) (w:World),w.heap[b]?=some (cl l e)→off+i+vs.length≤l.length→(∀v∈vs,v.oneCell'=true) →
  (storeCells ⟨b,off,none⟩ vs i).run P w = .ok () { w with heap:=w.heap.setIfInBounds b (cl (l.take (off+i)++vs++l.drop (off+i+vs.length)) e) }
 | [],i,off,l,w,hb,_,_=>by
  have:w.heap.setIfInBounds b (cl l e)=w.heap:=by
   have cW:b<w.heap.size:=by
    rcases Nat.lt_or_ge b w.heap.size with h'|h'
    ·exact h'
    ·rw[Array.getElem?_eq_none h']at hb;cases hb
   have KU:w.heap[b]=cl l e:=by rw[Array.getElem?_eq_getElem cW]at hb;exact Option.some.inj hb
   rw[← KU];simp[Array.setIfInBounds,cW]
  simp[storeCells,this]
 | v::vs,i,off,l,w,hb,hl,gu=>by
  simp only[List.length_cons]at hl
  have ys:(⟨b,off,none⟩:Addr).add i=⟨b,off+i,none⟩:=by
   unfold Addr.add;split
   ·rename_i h0;subst h0;rfl
   ·rfl
  have dL:w.cell? ⟨b,off+i,none⟩=some (l[off+i]' ah):=by rw[dy hb];simp
  have h1:(store ((⟨b,off,none⟩:Addr).add i) v).run P w = .ok () { w with heap:=w.heap.setIfInBounds b (cl (l.set (off+i) v) e) }:=by
   rw[ys,run_store P w _ v .plain (gu v (by simp))]
   simp only[dL,k7 hb,Bool.false_eq_true,if_false,uy hb]
  have cW:b<w.heap.size:=by
   rcases Nat.lt_or_ge b w.heap.size with h'|h'
   ·exact h'
   ·rw[Array.getElem?_eq_none h']at hb;cases hb
  have ih:=gm (b:=b) (e:=e) vs (i+1) off (l.set (off+i) v) { w with heap:=w.heap.setIfInBounds b (cl (l.set (off+i) v) e) } (by simp[cW]) (by simp;omega) (fun u hu=>gu u (by simp[hu]))
  simp only[storeCells,Sem.run_bind,h1,Result.andThen_ok,ih]
  congr 1
  simp only[Array.setIfInBounds_setIfInBounds]
  congr 2
  have aaz:off+i<l.length:=by omega
  rw[List.set_eq_take_append_cons_drop,if_pos aaz]
  have e1:(List.take (off+i) l++v::List.drop (off+i+1) l).take (off+(i+1))=List.take (off+i) l++[v]:=by
   rw[show off+(i+1)=off+i+1 by omega,List.take_append]
   simp only[List.length_take]
   rw[show min (off+i) l.length=off+i by omega]
   simp[List.take_take,show off+i+1-(off+i)=1 by omega]
  have e2:(List.take (off+i) l++v::List.drop (off+i+1) l).drop (off+(i+1)+vs.length)=List.drop (off+i+(vs.length+1)) l:=by
   rw[List.drop_append]
   simp only[List.length_take]
   rw[show min (off+i) l.length=off+i by omega,List.drop_of_length_le (by simp;omega)]
   rw[show off+(i+1)+vs.length-(off+i)=vs.length+1 by omega]
   simp[show off+i+1+vs.length=off+i+(vs.length+1) by omega]
  rw[e1,e2]
  simp
def ix:List Value→Bool
 | []=>true
 | v::vs=>v.oneCell' && ix vs
theorem vF{vs:List Value}(h:ix vs=true):∀v∈vs,v.oneCell'=true:=by
 induction vs with
 | nil=>intro v hv;cases hv
 | cons u vs ih =>
  simp only[ix,Bool.and_eq_true]at h
  intro v hv
  rcases List.mem_cons.1 hv with rfl|hv
  ·exact h.1
  ·exact ih h.2 v hv
theorem vj{z r vs:List Value}{i:Nat}(h:m8 [] i z vs = .mk r)(hv:vs≠[]):r=z.take i++vs++z.drop (i+vs.length)∧i+vs.length≤z.length:=by
 obtain⟨h1,h2,_⟩:=Ie _ _ _ _ _ h
 exact⟨by simpa using h2 hv,by simpa[hv]using h1⟩
theorem eO{t:TypeId}{x y:Operand}{b off:Nat}{bM:Ty}{l l':List Value}{e:TypeId}{v:Value}(i:Nat)(hS:∀w,Sat G w H'→Sx rest S w)(hx:ev L x=some (.pointer (some ⟨b,off,none⟩)))(hy:ev L y=some v)(ht:U.get t=some bM)(ir:Nat.beq (aX v).length bM.info.size=true)(bT:Nat.beq (aX v).length 0=false)(gu:ix (aX v)=true)(hi:cq H i=some (ag b (cl l e)))(hl:m8 [] off l (aX v) = .mk l')(hp:lh i (ag b (cl l' e)) H [] = .mk H')(h:J P f n R G S all rest k L H'):J P f n R G S all (.cons false true ⟨none,.store t x y,ty,pos,af,gd⟩ rest) k L H:=by
 refine Pw (fun H1=>H1=H') (fun a w ha hw=>?_) (fun H1 w e hw=>hS w (e ▸ hw)) (fun H1 e=>e ▸ h)
 have fE:aX v≠[]:=fun e=>by rw[e]at bT;cases bT
 obtain⟨h1,h2⟩:=vj hl fE
 have hr:=gm (P:=P) (aX v) 0 off l w (hw.tD hi) (by simpa using h2) (vF gu)
 simp only[Nat.add_zero,← h1]at hr
 refine⟨_,H',?_,rfl,hw.put hi hp⟩
 have Wr:v.cells.size=bM.info.size:=by rw[dH];simpa using Nat.eq_of_beq_eq_true ir
 have ln:v.cells.toList=aX v:=by rw[dH]
 simp only[execOp,ha.ev hx,ha.ev hy,Instr.storeAt,Instr.sureAddr,Sem.run_bind,Sem.run_pure,Result.andThen_ok,storeVar,run_sizeOf ht]
 rw[if_neg (by simp[Wr])]
 simp only[ln,hr,Result.andThen_ok]
theorem bC{elem:TypeId}{x:Operand}{v:Value}(hd:Nat.blt d n=true)(hx:ev L x=some v)(hS:∀b w,Sat G w (ag b (cl (aX v) elem)::H)→Sx rest S w)(h:∀b,J P f n R G S all rest k ((d,.pointer (some ⟨b,0,none⟩))::L) (ag b (cl (aX v) elem)::H)) :
  J P f n R G S all (.cons false true ⟨some d,.box elem x,ty,pos,af,gd⟩ rest) k L H:=by
 refine n6 hd (fun u H1=>∃b,u = .pointer (some ⟨b,0,none⟩)∧H1=ag b (cl (aX v) elem)::H) (fun a w ha hw=>?_) ?_ ?_
 ·refine⟨_,_,_,?_,⟨w.heap.size,rfl,rfl⟩,hw.alloc _⟩
  simp[execOp,ha.ev hx,Instr.box,newVar,newRow,dH,cl]
 ·rintro u H1 w⟨b,rfl,rfl⟩ hw;exact hS b w hw
 ·rintro u H1⟨b,rfl,rfl⟩;exact h b
theorem RK{elem:TypeId}{bM:Ty}{z:Value}(hd:Nat.blt d n=true)(ht:U.get elem=some bM)(hz:bM.info.zero=some z)(hS:∀b w,Sat G w (ag b (cl (aX z) elem)::H)→Sx rest S w)(h:∀b,J P f n R G S all rest k ((d,.pointer (some ⟨b,0,none⟩))::L) (ag b (cl (aX z) elem)::H)) :
  J P f n R G S all (.cons false true ⟨some d,.alloc elem,ty,pos,af,gd⟩ rest) k L H:=by
 refine n6 hd (fun u H1=>∃b,u = .pointer (some ⟨b,0,none⟩)∧H1=ag b (cl (aX z) elem)::H) (fun a w ha hw=>?_) ?_ ?_
 ·refine⟨_,_,_,?_,⟨w.heap.size,rfl,rfl⟩,hw.alloc _⟩
  simp[execOp,Instr.alloc,dN ht hz,newVar,newRow,dH,cl]
 ·rintro u H1 w⟨b,rfl,rfl⟩ hw;exact hS b w hw
 ·rintro u H1⟨b,rfl,rfl⟩;exact h b
theorem n5{t:TypeId}(hd:Nat.blt d n=true)(hS:∀b w,Sat G w (ag b (.map #[] 0)::H)→Sx rest S w)(h:∀b,J P f n R G S all rest k ((d,.map (some b))::L) (ag b (.map #[] 0)::H)) :
  J P f n R G S all (.cons false true ⟨some d,.makeMap t none,ty,pos,af,gd⟩ rest) k L H:=by
 refine n6 hd (fun u H1=>∃b,u = .map (some b)∧H1=ag b (.map #[] 0)::H) (fun a w ha hw=>?_) ?_ ?_
 ·refine⟨_,_,_,?_,⟨w.heap.size,rfl,rfl⟩,hw.alloc _⟩
  simp[execOp,Instr.makeMap]
 ·rintro u H1 w⟨b,rfl,rfl⟩ hw;exact hS b w hw
 ·rintro u H1⟨b,rfl,rfl⟩;exact h b
def Gk(z:List Value):Nat→List Value→List Value
 | 0,acc=>acc
 | i+1,acc=>Gk z i (z++acc)
def uW(L:fC)(size:Nat):List Value→List (Nat × Operand)→LA
 | z,[] => .mk z
 | z,(i,x)::ps=>match ev L x with
  | some v=>bif Nat.beq (aX v).length 0 then .no else bif Nat.beq (aX v).length size then
    (match m8 [] (i*size) z (aX v)with
    | .mk z'=>uW L size z' ps
    | .no => .no)else .no
  | none => .no
theorem vE{a:Act}(ha:Has n L a)(size:Nat)(ps:List (Nat × Operand)):∀(z r:List Value),uW L size z ps = .mk r →
  Instr.fill (fun i=>some (i*size,size)) z.toArray (ps.map fun x=>(x.1,a.eval x.2))=some r.toArray:=by
 induction ps with
 | nil=>intro z r h;simp only[uW]at h;cases h;rfl
 | cons p ps ih =>
  obtain⟨i,x⟩:=p
  intro z r h
  simp only[uW]at h
  split at h
  ·rename_i u hu
   cases rD:Nat.beq (aX u).length 0 with
   | true=>simp[rD]at h
   | false =>
   simp only[rD,cond_false]at h
   cases hb:Nat.beq (aX u).length size with
   | false=>simp[hb]at h
   | true =>
    simp only[hb,cond_true]at h
    split at h
    ·rename_i z' hz'
     have hr:=ih z' r h
     simp only[List.map_cons,Instr.fill,ha.ev hu]
     have hlen:(aX u).length=size:=Nat.eq_of_beq_eq_true hb
     have he:aX u≠[]:=fun e=>by rw[e]at rD;cases rD
     obtain⟨h4,h1⟩:=vj hz' he
     have ir:u.cells.size=size:=by rw[dH];simpa using hlen
     rw[if_neg (by simp[ir];rw[← hlen];rw[← hlen]at h1;exact h1)]
     have:=AR (aX u) 0 (i*size) z.toArray (by simpa using h1)
     simp only[Nat.add_zero]at this
     have e:((aX u).toArray.zipIdx.foldl (fun cs (x:Value × Nat)=>cs.setIfInBounds (i*size+x.2) x.1) z.toArray)=z'.toArray:=by
      apply Array.ext'
      rw[this,h4]
     rw[dH]
     rw[show((aX u).toArray.zipIdx.foldl (fun cs (x:Value × Nat)=>match x with|(c,j)=>cs.setIfInBounds (i*size+j) c) z.toArray)=z'.toArray from e]
     exact hr
    ·cases h
  ·cases h
theorem zR{t elem:TypeId}{bM te:Ty}{z:Value}{len:Nat}{parts:Array (Nat × Operand)}{cs:List Value}(hd:Nat.blt d n=true)(ht:U.get t=some bM)(hu:bM.gC = .slice elem)(he:U.get elem=some te)(hz:te.info.zero=some z)(ir:Nat.beq (aX z).length te.info.size=true)(kX:Nat.blt 0 te.info.size=true)(NR:Nat.ble (len*te.info.size) 16777216=true)(hb:uW L te.info.size (Gk (aX z) len []) parts.toList = .mk cs)(hS:∀b w,Sat G w (ag b (cl cs elem)::H)→Sx rest S w)(h:∀b,J P f n R G S all rest k ((d,.slice (some ⟨b,0,none⟩) len len)::L) (ag b (cl cs elem)::H)) :
  J P f n R G S all (.cons false true ⟨some d,.buildSlice t len parts,ty,pos,af,gd⟩ rest) k L H:=by
 have Wr:(aX z).length=te.info.size:=Nat.eq_of_beq_eq_true ir
 have aap:0<te.info.size:=by simpa[Nat.blt_eq]using kX
 have Wz:∀(i:Nat) (acc:List Value),Gk (aX z) i acc=(List.replicate i (aX z)).flatten++acc:=by
  intro i
  induction i with
  | zero=>intro acc;simp[Gk]
  | succ i ih =>
   intro acc
   rw[Gk,ih]
   rw[List.replicate_succ']
   simp
 have acK:((Array.range (len*te.info.size)).map fun i=>z.cells[i%z.cells.size]!)=(Gk (aX z) len []).toArray:=by
  apply Array.ext'
  rw[Wz]
  simp only[Array.toList_map,Array.toList_range,List.append_nil]
  have si:z.cells.size=te.info.size:=by rw[dH];simpa using Wr
  rw[si]
  clear NR hb h hS
  induction len with
  | zero=>simp
  | succ len ih =>
   rw[List.replicate_succ',List.flatten_append,← ih]
   rw[Nat.succ_mul,List.range_add,List.map_append]
   congr 1
   simp only[List.map_map,List.flatten_cons,List.flatten_nil,List.append_nil]
   apply List.ext_getElem?
   intro j
   by_cases hj:j<te.info.size
   ·simp only[List.getElem?_map,List.getElem?_range hj,Option.map_some,Function.comp]
    rw[Nat.mul_comm,Nat.mul_add_mod,Nat.mod_eq_of_lt hj]
    rw[dH]
    have:j<(aX z).length:=by omega
    simp[this]
   ·rw[List.getElem?_eq_none (by simp;omega),List.getElem?_eq_none ah]
 refine n6 hd (fun u H1=>∃b,u = .slice (some ⟨b,0,none⟩) len len∧H1=ag b (cl cs elem)::H) (fun a w ha hw=>?_) ?_ ?_
 ·refine⟨_,_,_,?_,⟨w.heap.size,rfl,rfl⟩,hw.alloc _⟩
  have hf:=vE ha _ _ _ _ hb
  have hle:¬len*te.info.size>2 ^ 24:=by have:=Nat.le_of_ble_eq_true NR;omega
  simp only[execOp,Instr.buildSlice,Sem.run_bind,run_underlying ht,Result.andThen_ok,hu,run_sizeOf he,if_neg hle,Sem.run_pure]
  by_cases h0:len*te.info.size=0
  ·have N9:len=0:=by
    rcases Nat.eq_zero_or_pos len with h|h
    ·exact h
    ·exact absurd h0 (Nat.ne_of_gt (Nat.mul_pos h aap))
   subst N9
   have hf0:Instr.fill (fun i=>some (i*te.info.size,te.info.size)) #[] (parts.toList.map fun x=>(x.1,a.eval x.2))=some cs.toArray:=by simpa[Gk]using hf
   have zu:((Array.range 0).map fun i=>(#[]:Array Value)[i%(#[]:Array Value).size]!) = #[]:=by simp
   simp only[Nat.zero_mul,if_true,pure_bind,zu,Array.toList_map]
   rw[show(List.map (fun x:Nat × Operand=>match x with|(i,x)=>(i,a.eval x)) parts.toList)=parts.toList.map (fun x=>(x.1,a.eval x.2))from rfl,hf0]
   simp[newRow,cl]
  ·simp only[if_neg h0,Sem.run_bind,dN he hz,Sem.run_pure,Result.andThen_ok,acK,Array.toList_map]
   rw[show(List.map (fun x:Nat × Operand=>match x with|(i,x)=>(i,a.eval x)) parts.toList)=parts.toList.map (fun x=>(x.1,a.eval x.2))from rfl,hf]
   simp[newRow,cl]
 ·rintro u H1 w⟨b,rfl,rfl⟩ hw;exact hS b w hw
 ·rintro u H1⟨b,rfl,rfl⟩;exact h b
theorem Jn{o:Oper}(h:J P f n R G S all (.cons m false o rest) k L H):J P f n R G S all (.cons m false o rest) k L H:=h
theorem tX{c x y:Operand}(h:J P f n R G S all (.cons m true ⟨some d,.pick c x y,ty,pos,af,gd⟩ rest) k L H):J P f n R G S all (.cons m true ⟨some d,.pick c x y,ty,pos,af,gd⟩ rest) k L H:=h
theorem lu{op:BinOp}{t t':TypeId}{x y:Operand}(h:J P f n R G S all (.cons m true ⟨some d,.binOp op t x y t',ty,pos,af,gd⟩ rest) k L H):J P f n R G S all (.cons m true ⟨some d,.binOp op t x y t',ty,pos,af,gd⟩ rest) k L H:=h
theorem aK{t:TypeId}{x:Operand}(h:J P f n R G S all (.cons m true ⟨some d,.load t x,ty,pos,af,gd⟩ rest) k L H):J P f n R G S all (.cons m true ⟨some d,.load t x,ty,pos,af,gd⟩ rest) k L H:=h
theorem aT{t:TypeId}{x y:Operand}(h:J P f n R G S all (.cons m true ⟨none,.store t x y,ty,pos,af,gd⟩ rest) k L H):J P f n R G S all (.cons m true ⟨none,.store t x y,ty,pos,af,gd⟩ rest) k L H:=h
theorem eG{t t':TypeId}{x:Operand}(h:J P f n R G S all (.cons m true ⟨some d,.convert t t' x,ty,pos,af,gd⟩ rest) k L H):J P f n R G S all (.cons m true ⟨some d,.convert t t' x,ty,pos,af,gd⟩ rest) k L H:=h
theorem tZ{o:Oper}{j t:Nat}{oj:Oper}{b:Bool}(hg:o.guard=some (j,b))(hj:cq all.toList j=some oj)(ht:oj.dst=some t)(hb:dX L t=some (.bool b))(h:J P f n R G S all (.cons m true o rest) k L H):J P f n R G S all (.cons m false o rest) k L H:=by
 intro a w ha hw hS
 have h1:=h a w ha hw (Sx.of hS)
 have qL:all[j]?=some oj:=by rw[dA]at hj;simpa using hj
 have mu:Region.wanted o (yielded all a.tmps)=true:=by
  simp only[Region.wanted,hg,yielded,qL,Option.bind_some,ht,ha.get hb]
  simp
 rcases h1 with⟨_,h1⟩|⟨hf,_⟩
 ·exact .inl ⟨.inr mu,h1⟩
 ·cases hf
theorem ub{o:Oper}{j t:Nat}{oj:Oper}{b c:Bool}(hd:o.dst=some d)(ym:Nat.blt d n=true)(hg:o.guard=some (j,b))(hj:cq all.toList j=some oj)(ht:oj.dst=some t)(hb:dX L t=some (.bool c))(Oq:(c == b)=false)(h:J P f n R G S all rest k ((d,undef)::L) H):J P f n R G S all (.cons m false o rest) k L H:=by
 intro a w ha hw hS
 have qL:all[j]?=some oj:=by rw[dA]at hj;simpa using hj
 have mu:Region.wanted o (yielded all a.tmps)=false:=by
  simp only[Region.wanted,hg,yielded,qL,Option.bind_some,ht,ha.get hb]
  simpa using Oq
 exact .inr ⟨rfl,mu,by rw[hd];exact h _ w (ha.put ym undef) hw (Sx.of hS)⟩
theorem qU{o:Oper}{j t:Nat}{oj:Oper}{b c:Bool}(hd:o.dst=none)(hg:o.guard=some (j,b))(hj:cq all.toList j=some oj)(ht:oj.dst=some t)(hb:dX L t=some (.bool c))(Oq:(c == b)=false)(h:J P f n R G S all rest k L H):J P f n R G S all (.cons m false o rest) k L H:=by
 intro a w ha hw hS
 have qL:all[j]?=some oj:=by rw[dA]at hj;simpa using hj
 have mu:Region.wanted o (yielded all a.tmps)=false:=by
  simp only[Region.wanted,hg,yielded,qL,Option.bind_some,ht,ha.get hb]
  simpa using Oq
 exact .inr ⟨rfl,mu,by rw[hd];exact h a w ha hw (Sx.of hS)⟩
theorem tY{o:Oper}{j t:Nat}{oj:Oper}{b:Bool}(hd:o.dst=some d)(ym:Nat.blt d n=true)(hg:o.guard=some (j,b))(hj:cq all.toList j=some oj)(ht:oj.dst=some t)(hb:dX L t=some undef)(h:J P f n R G S all rest k ((d,undef)::L) H):J P f n R G S all (.cons m false o rest) k L H:=by
 intro a w ha hw hS
 have qL:all[j]?=some oj:=by rw[dA]at hj;simpa using hj
 have mu:Region.wanted o (yielded all a.tmps)=false:=by
  simp only[Region.wanted,hg,yielded,qL,Option.bind_some,ht,ha.get hb,undef]
  rfl
 exact .inr ⟨rfl,mu,by rw[hd];exact h _ w (ha.put ym undef) hw (Sx.of hS)⟩
theorem wH{c x y:Operand}{v:Value}(hd:Nat.blt d n=true)(hc:ev L c=some (.bool true))(hx:ev L x=some v)(h:J P f n R G S all rest k ((d,v)::L) H):J P f n R G S all (.cons m true ⟨some d,.pick c x y,ty,pos,af,gd⟩ rest) k L H :=
 dk hd (fun a ha w=>by simp[execOp,ha.ev hc,ha.ev hx,asBool]) h
theorem wI{c x y:Operand}{v:Value}(hd:Nat.blt d n=true)(hc:ev L c=some (.bool false))(hy:ev L y=some v)(h:J P f n R G S all rest k ((d,v)::L) H):J P f n R G S all (.cons m true ⟨some d,.pick c x y,ty,pos,af,gd⟩ rest) k L H :=
 dk hd (fun a ha w=>by simp[execOp,ha.ev hc,ha.ev hy,asBool]) h
theorem RG(t:Nat){b:Bool}(hb:dX L t=some (.bool b))(ht:b=true→J P f n R G S all rest k ((t,.bool true)::L) H)(hf:b=false→J P f n R G S all rest k ((t,.bool false)::L) H) :
  J P f n R G S all rest k L H:=by
 have hs:∀c:Bool,b=c→∀s v,dX ((t,.bool c)::L) s=some v→dX L s=some v:=by
  rintro c rfl s v e
  simp only[dX]at e
  cases cF:Nat.beq t s with
  | true=>simp only[cF,cond_true]at e;rw[← Nat.eq_of_beq_eq_true cF,hb];exact e
  | false=>simpa only[cF,cond_false]using e
 cases b with
 | true=>exact Pk (hs true rfl) (ht rfl)
 | false=>exact Pk (hs false rfl) (hf rfl)
theorem Pm(t:Nat){p:Prop}[Decidable p](hb:dX L t=some (.bool (decide p)))(ht:p→J P f n R G S all rest k ((t,.bool true)::L) H)(hf:¬p→J P f n R G S all rest k ((t,.bool false)::L) H) :
  J P f n R G S all rest k L H:=RG t hb (fun h=>ht (of_decide_eq_true h)) (fun h=>hf (of_decide_eq_false h))
theorem iC{o:Oper}{j t:Nat}{oj:Oper}{p:Prop}[Decidable p]{b:Bool}(hg:o.guard=some (j,b))(hj:cq all.toList j=some oj)(ht:oj.dst=some t)(hb:dX L t=some (.bool (decide p)))(h1:p→J P f n R G S all (.cons m false o rest) k ((t,.bool true)::L) H)(h2:¬p→J P f n R G S all (.cons m false o rest) k ((t,.bool false)::L) H):J P f n R G S all (.cons m false o rest) k L H:=Pm t hb h1 h2
theorem az(t:Nat){u:Value}(v:Value)(hb:dX L t=some u)(huv:u=v)(h:J P f n R G S all rest k ((t,v)::L) H):J P f n R G S all rest k L H:=by
 subst huv
 refine Pk (fun s x e=>?_) h
 simp only[dX]at e
 cases cF:Nat.beq t s with
 | true=>simp only[cF,cond_true]at e;rw[← Nat.eq_of_beq_eq_true cF,hb];exact e
 | false=>simpa only[cF,cond_false]using e
theorem bB(t:Nat){u:Value}(v:Value)(hb:dX L t=some u)(huv:u=v)(h:K P f n R G k ((t,v)::L) H):K P f n R G k L H:=by
 subst huv
 refine Jl (fun s x e=>?_) h
 simp only[dX]at e
 cases cF:Nat.beq t s with
 | true=>simp only[cF,cond_true]at e;rw[← Nat.eq_of_beq_eq_true cF,hb];exact e
 | false=>simpa only[cF,cond_false]using e
def gg:IntKind→Int→Prop
 | .i8,x => -128≤x∧x≤127
 | .i16,x => -32768≤x∧x≤32767
 | .i32,x => -2147483648≤x∧x≤2147483647
 | .i64,x => -9223372036854775808≤x∧x≤9223372036854775807
 | .u8,x=>0≤x∧x≤255
 | .u16,x=>0≤x∧x≤65535
 | .u32,x=>0≤x∧x≤4294967295
 | .u64,x=>0≤x∧x≤18446744073709551615
theorem cK{j:IntKind}{x:Int}(h:gg j x):j.wrap x=x:=by
 cases j <;> simp only[gg]at h <;> simp[IntKind.wrap,IntKind.bits,IntKind.signed] <;> (try split) <;> omega
theorem Js{t yt:TypeId}{x y:Operand}{j:IntKind}{p q:Int}(hd:Nat.blt d n=true)(hx:ev L x=some (.int j p))(hy:ev L y=some (.int j q))(hr:gg j (p+q))(h:J P f n R G S all rest k ((d,.int j (p+q))::L) H):J P f n R G S all (.cons m true ⟨some d,.binOp .add t x y yt,ty,pos,af,gd⟩ rest) k L H :=
 dk hd (fun a ha w=>by simp[execOp,ha.ev hx,ha.ev hy,eqGuard,binOp,Op.intArith,cK hr]) h
theorem Ct{t yt:TypeId}{x y:Operand}{j:IntKind}{p q:Int}(hd:Nat.blt d n=true)(hx:ev L x=some (.int j p))(hy:ev L y=some (.int j q))(hr:gg j (p-q))(h:J P f n R G S all rest k ((d,.int j (p-q))::L) H):J P f n R G S all (.cons m true ⟨some d,.binOp .sub t x y yt,ty,pos,af,gd⟩ rest) k L H :=
 dk hd (fun a ha w=>by simp[execOp,ha.ev hx,ha.ev hy,eqGuard,binOp,Op.intArith,cK hr]) h
theorem gT{t yt:TypeId}{x y:Operand}{j:IntKind}{p q:Int}(hd:Nat.blt d n=true)(hx:ev L x=some (.int j p))(hy:ev L y=some (.int j q))(hr:gg j (p*q))(h:J P f n R G S all rest k ((d,.int j (p*q))::L) H):J P f n R G S all (.cons m true ⟨some d,.binOp .mul t x y yt,ty,pos,af,gd⟩ rest) k L H :=
 dk hd (fun a ha w=>by simp[execOp,ha.ev hx,ha.ev hy,eqGuard,binOp,Op.intArith,cK hr]) h
theorem Pv{t yt:TypeId}{x y:Operand}{j:IntKind}{p q:Int}(hd:Nat.blt d n=true)(hx:ev L x=some (.int j p))(hy:ev L y=some (.int j q))(h:J P f n R G S all rest k ((d,.int j (j.wrap (p+q)))::L) H):J P f n R G S all (.cons m true ⟨some d,.binOp .add t x y yt,ty,pos,af,gd⟩ rest) k L H :=
 dk hd (fun a ha w=>by simp[execOp,ha.ev hx,ha.ev hy,eqGuard,binOp,Op.intArith]) h
theorem X1{t yt:TypeId}{x y:Operand}{j:IntKind}{p q:Int}(hd:Nat.blt d n=true)(hx:ev L x=some (.int j p))(hy:ev L y=some (.int j q))(h:J P f n R G S all rest k ((d,.int j (j.wrap (p*q)))::L) H):J P f n R G S all (.cons m true ⟨some d,.binOp .mul t x y yt,ty,pos,af,gd⟩ rest) k L H :=
 dk hd (fun a ha w=>by simp[execOp,ha.ev hx,ha.ev hy,eqGuard,binOp,Op.intArith]) h
theorem o8{t yt:TypeId}{x y:Operand}{j:IntKind}{p q:Int}(hd:Nat.blt d n=true)(hx:ev L x=some (.int j p))(hy:ev L y=some (.int j q))(hp:0≤p)(hq:0<q)(h:J P f n R G S all rest k ((d,.int j (p%q))::L) H):J P f n R G S all (.cons m true ⟨some d,.binOp .rem t x y yt,ty,pos,af,gd⟩ rest) k L H :=
 dk hd (fun a ha w=>by
  have h0:¬q=0:=by omega
  simp[execOp,ha.ev hx,ha.ev hy,eqGuard,binOp,Op.intDiv,h0,Int.tmod_eq_emod_of_nonneg hp]) h
theorem nZ{t yt:TypeId}{x y:Operand}{j:IntKind}{p q:Int}(hd:Nat.blt d n=true)(hx:ev L x=some (.int j p))(hy:ev L y=some (.int j q))(hp:0≤p)(hq:0<q)(hr:gg j (p/q))(h:J P f n R G S all rest k ((d,.int j (p/q))::L) H):J P f n R G S all (.cons m true ⟨some d,.binOp .quo t x y yt,ty,pos,af,gd⟩ rest) k L H :=
 dk hd (fun a ha w=>by
  have h0:¬q=0:=by omega
  simp[execOp,ha.ev hx,ha.ev hy,eqGuard,binOp,Op.intDiv,h0,Int.tdiv_eq_ediv_of_nonneg hp,cK hr]) h
theorem iW{t yt:TypeId}{x y:Operand}{j j':IntKind}{p q:Int}(hd:Nat.blt d n=true)(hx:ev L x=some (.int j p))(hy:ev L y=some (.int j' q))(hq:0≤q)(h:J P f n R G S all rest k ((d,.int j (p/2 ^ (min q.toNat j.bits)))::L) H):J P f n R G S all (.cons m true ⟨some d,.binOp .shr t x y yt,ty,pos,af,gd⟩ rest) k L H :=
 dk hd (fun a ha w=>by
  have h0:¬q<0:=by omega
  have kX:(0:Int)≤2 ^ (min q.toNat j.bits):=Int.le_of_lt (Int.pow_pos ah)
  simp[execOp,ha.ev hx,ha.ev hy,eqGuard,binOp,Op.shift,h0,Int.fdiv_eq_ediv_of_nonneg p kX]) h
theorem np{t yt:TypeId}{x y:Operand}{j j':IntKind}{p q:Int}(hd:Nat.blt d n=true)(hx:ev L x=some (.int j p))(hy:ev L y=some (.int j' q))(hq:0≤q)(h:J P f n R G S all rest k ((d,.int j (j.wrap (p*2 ^ (min q.toNat j.bits))))::L) H):J P f n R G S all (.cons m true ⟨some d,.binOp .shl t x y yt,ty,pos,af,gd⟩ rest) k L H :=
 dk hd (fun a ha w=>by
  have h0:¬q<0:=by omega
  simp[execOp,ha.ev hx,ha.ev hy,eqGuard,binOp,Op.shift,h0]) h
theorem zi{src dst:TypeId}{ts td:Ty}{x:Operand}{j j' jd:IntKind}{p:Int}(hd:Nat.blt d n=true)(hx:ev L x=some (.int j p))(hs:U.get src=some ts)(Kw:ts.gC = .int j')(KP:U.get dst=some td)(KO:td.gC = .int jd)(hr:gg jd p)(h:J P f n R G S all rest k ((d,.int jd p)::L) H):J P f n R G S all (.cons m true ⟨some d,.convert src dst x,ty,pos,af,gd⟩ rest) k L H :=
 dk hd (fun a ha w=>by simp[execOp,ha.ev hx,convert,run_underlying hs,run_underlying KP,Kw,KO,Conv.intToInt,cK hr]) h
theorem Jq{src dst:TypeId}{ts td:Ty}{x:Operand}{j j' jd:IntKind}{p:Int}(hd:Nat.blt d n=true)(hx:ev L x=some (.int j p))(hs:U.get src=some ts)(Kw:ts.gC = .int j')(KP:U.get dst=some td)(KO:td.gC = .int jd)(h:J P f n R G S all rest k ((d,.int jd (jd.wrap p))::L) H):J P f n R G S all (.cons m true ⟨some d,.convert src dst x,ty,pos,af,gd⟩ rest) k L H :=
 dk hd (fun a ha w=>by simp[execOp,ha.ev hx,convert,run_underlying hs,run_underlying KP,Kw,KO,Conv.intToInt]) h
theorem lg{g:FuncId}{vs:Array Value}{w:World}(h:P.funcs[g]?.map nU=some true):(callFunc g vs).run P w = .ok (.enter g vs) w:=by
 cases hf:P.funcs[g]? with
 | none=>rw[hf]at h;cases h
 | some fn =>
  rw[hf]at h
  simp only[Option.map_some,Option.some.injEq,nU,Bool.and_eq_true,Bool.not_eq_true']at h
  have h1:fn.body.isNone=false:=by cases hb:fn.body <;> simp_all
  simp only[callFunc,Sem.run_bind,run_program,Result.andThen_ok,hf,h.2,h1,Bool.false_eq_true,if_false,Sem.run_pure]
theorem cp{fo:Operand}{args:Array Operand}{FX:Array TypeId}{g:FuncId}{cap:Array Value}{vs:List Value}{Pre Fr:List HP}{Post:Value→List HP→Prop}(is:List Nat)(hd:Nat.blt d n=true)(hf:ev L fo=some (.func (.func g) #[] cap))(j5:L9 L args.toList [] = .mk vs){as:List Value}(has:as=vs++cap.toList)(c:aD P g as Pre Post)(hp:sZ is [] H [] = .mk Pre Fr)(hS:∀v H' w,Post v H'→Sat G w (H'++Fr)→Sx rest S w)(h:∀v H',Post v H'→J P f n R G S all rest k ((d,v)::L) (H'++Fr)) :
  J P f n R G S all (.cons false true ⟨some d,.call { callee := .value fo,args:=args,argTypes:=FX },ty,pos,af,gd⟩ rest) k L H:=by
 intro a w ha hw _
 refine .inl ⟨.inl rfl,.inr ⟨rfl,?_⟩⟩
 have hr:(execOp a.eval ⟨some d,.call { callee := .value fo,args:=args,argTypes:=FX },ty,pos,af,gd⟩).run P w = .ok (.enter g as.toArray) w:=by
  simp only[execOp,resolve,Sem.run_bind,ha.ev hf,Deferred.ofValue,Sem.run_pure,Result.andThen_ok,invoke]
  rw[lg c.1,mT ha.1 _ _ j5,has]
  congr 2
  simp
 refine uk (fun c hc=>by cases hc) hr (Calls.mono (c.2 G w Fr (hw.pick is hp)) ?_)
 rintro e w'⟨v,H',rfl,fp,mu⟩
 exact⟨v,rfl,hS v H' w' fp mu,h v H' fp _ w' (ha.put hd v) mu (hS v H' w' fp mu)⟩
end
end Go.SL
namespace Go.SL
theorem Vw.oD(e:TypeId)(size:Nat)(v:Value)(n:Nat)(cs:List Value)(h0:∃h,aB e size v n cs h):Vw (aB e size v n cs) v n cs:=by
 obtain⟨h,hl,⟨a,rfl,rfl,_⟩|⟨b,o,cap,pre,bQ,rfl,hp,hn,hc,_⟩⟩:=h0
 ·exact⟨a,0,rfl,.inl (List.eq_nil_of_length_eq_zero (by simpa using hl))⟩
 ·refine⟨_,cap,rfl,.inr ⟨b,o,rfl,fun h hA j c hj=>?_⟩⟩
  obtain⟨_,⟨a,hv,_,_⟩|⟨b',o',gD,Z8,ry,hv,sG,_,_,QQ⟩⟩:=hA
  ·simp only[Value.slice.injEq]at hv
   obtain⟨_,rfl,rfl⟩:=hv
   have:cs=[]:=List.eq_nil_of_length_eq_zero (by simpa using hl)
   subst this;simp at hj
  ·simp only[Value.slice.injEq,Option.some.injEq,Addr.mk.injEq,and_true,true_and]at hv
   obtain⟨⟨rfl,rfl⟩,rfl⟩:=hv
   unfold dL
   rw[QQ b,if_pos rfl]
   simp only[cl]
   rw[← sG]
   have cW:j<cs.length:=by
    rcases Nat.lt_or_ge j cs.length with h|h
    ·exact h
    ·rw[List.getElem?_eq_none h]at hj;cases hj
   rw[List.getElem?_toArray,List.append_assoc,List.getElem?_append_right ah,show Z8.length+j-Z8.length=j by omega,List.getElem?_append_left cW]
   exact hj
theorem Vw.ag{b:Nat}{l:List Value}{e:TypeId}{o n cap:Nat}{cs:List Value}(h:(l.drop o).take cs.length=cs):Vw (ag b (cl l e)) (.slice (some ⟨b,o,none⟩) n cap) n cs:=by
 refine⟨_,cap,rfl,.inr ⟨b,o,rfl,fun h' hA j c hj=>?_⟩⟩
 unfold dL
 rw[hA b,if_pos rfl]
 simp only[cl]
 rw[← h,List.getElem?_take]at hj
 split at hj
 ·simpa using hj
 ·cases hj
theorem Vw.nil(A:HP)(a:Option Addr)(cap:Nat):Vw A (.slice a 0 cap) 0 []:=⟨a,cap,rfl,.inl rfl⟩
theorem Vw.mono{A B:HP}{v:Value}{n:Nat}{cs:List Value}(h:Vw A v n cs)(Xv:∀h,B h→∃h',sub h' h∧A h'):Vw B v n cs:=by
 obtain⟨a,cap,hv,h0|⟨b,o,ha,hc⟩⟩:=h
 ·exact⟨a,cap,hv,.inl h0⟩
 ·refine⟨a,cap,hv,.inr ⟨b,o,ha,fun h hB j c hj=>?_⟩⟩
  obtain⟨h',hs,hA⟩:=Xv h hB
  have:=hc h' hA j c hj
  unfold dL at this ⊢
  split at this
  ·rename_i x y z hb;rw[hs b _ hb];exact this
  ·cases this
theorem Vw.cells{A:HP}{v:Value}{n:Nat}{cs:List Value}(h:Vw A v n cs){G:cC}{w:World}{H:List HP}(hw:Sat G w H){i:Nat}(hi:cq H i=some A) :
  ∃a cap,v = .slice a n cap∧(cs=[]∨∃b o,a=some ⟨b,o,none⟩∧∀j c,cs[j]?=some c→w.cell? ⟨b,o+j,none⟩=some c):=by
 obtain⟨a,cap,hv,h0|⟨b,o,ha,hc⟩⟩:=h
 ·exact⟨a,cap,hv,.inl h0⟩
 ·obtain⟨h,hh,hA⟩:=hw.kQ hi
  exact⟨a,cap,hv,.inr ⟨b,o,ha,fun j c hj=>dO hh (hc h hA j c hj)⟩⟩
theorem Addr.add_eq(b o i:Nat):(⟨b,o,none⟩:Addr).add i=⟨b,o+i,none⟩:=by
 unfold Addr.add;split
 ·rename_i h;subst h;rfl
 ·rfl
section
variable{P:Program}{U:Tr}[hU:fT P U]{f:FuncId}{n:Nat}{R:Ending→World→Prop}{G:cC}{k:List Item}{L:fC}{H H':List HP}{S:World→Prop}{all:Array Oper}{rest:Pl}{ty:TypeId}{pos:String}{af:Array Edge}{gd:Option (Nat × Bool)}{m:Bool}{d:Tmp}
theorem nz{A:HP}{v:Value}{nn size:Nat}{cs:List Value}{w:World}{i:Nat}(hv:Vw A v nn cs)(hw:Sat G w H)(hi:cq H i=some A)(hl:cs.length=nn*size) :
  (Builtin.firstCells size nn v).run P w = .ok cs.toArray w:=by
 obtain⟨a,cap,rfl,h0|⟨b,o,rfl,hc⟩⟩:=hv.cells hw hi
 ·subst h0
  have h0:nn*size=0:=by simpa using hl.symm
  cases a with
  | none=>simp[Builtin.firstCells]
  | some a=>simp[Builtin.firstCells,h0,loadCells,loadCellsFrom]
 ·have:=run_loadCells_list (P:=P) w ⟨b,o,none⟩ cs (fun j c hj=>by rw[Addr.add_eq];exact hc j c hj)
  rw[hl]at this
  simp[Builtin.firstCells,this]
theorem xz{A:HP}{v:Value}{nn size q:Nat}{cs:List Value}{w:World}{i:Nat}(hv:Vw A v nn cs)(hw:Sat G w H)(hi:cq H i=some A)(hl:cs.length=nn*size)(hq:q≤nn) :
  (Builtin.firstCells size q v).run P w = .ok (cs.take (q*size)).toArray w:=by
 obtain⟨a,cap,rfl,h0|⟨b,o,rfl,hc⟩⟩:=hv.cells hw hi
 ·subst h0
  have h0:nn*size=0:=by simpa using hl.symm
  have h1:q*size=0:=by have:=Nat.mul_le_mul_right size hq;omega
  cases a with
  | none=>simp[Builtin.firstCells]
  | some a=>simp[Builtin.firstCells,h1,loadCells,loadCellsFrom]
 ·have h2:(cs.take (q*size)).length=q*size:=by rw[List.length_take,hl];exact Nat.min_eq_left (Nat.mul_le_mul_right size hq)
  have:=run_loadCells_list (P:=P) w ⟨b,o,none⟩ (cs.take (q*size)) (fun j c hj=>by
   rw[Addr.add_eq]
   rw[List.getElem?_take]at hj
   split at hj
   ·exact hc j c hj
   ·cases hj)
  rw[h2]at this
  simp[Builtin.firstCells,this]
theorem Qb(e:TypeId)(size:Nat)(a:Option Addr):∀h,emp h→aB e size (.slice a 0 0) 0 [] h:=fun h he=>⟨by simp,.inl ⟨a,rfl,rfl,he⟩⟩
theorem uq(pre cs bQ news:List Value)(o:Nat)(ho:pre.length=o) :
  (pre++cs++bQ).take (o+cs.length)++news++(pre++cs++bQ).drop (o+cs.length+news.length)=pre++(cs++news)++bQ.drop news.length:=by
 subst ho
 have h1:(pre++cs++bQ).take (pre.length+cs.length)=pre++cs:=by
  rw[show pre.length+cs.length=(pre++cs).length by simp];exact List.take_left
 have h2:(pre++cs++bQ).drop (pre.length+cs.length+news.length)=bQ.drop news.length:=by
  rw[show pre.length+cs.length=(pre++cs).length by simp];rw[List.drop_append];simp
 rw[h1,h2];simp
theorem Gg{t t2 elem:TypeId}{bM FD te:Ty}{z v v2:Value}{nn mm:Nat}{cs news:List Value}{A:HP}{rty:TypeId}{w:World}(i j:Nat)(ht:U.get t=some bM)(hu:bM.gC = .slice elem)(h2:U.get t2=some FD)(Rh:∀q,FD.gC ≠ .int q)(he:U.get elem=some te)(hz:te.info.zero=some z)(L4:(aX z).length=te.info.size)(hw:Sat G w H)(hi:cq H i=some (aB elem te.info.size v nn cs))(hj:cq H j=some A)(uh:Vw A v2 mm news)(rf:news.length=mm*te.info.size)(gu:∀u∈news,u.oneCell'=true)(KD:nn+mm≤9223372036854775807)(pY:(nn+mm)*te.info.bytes≤140737488355328) :
    ∃v' w',(Builtin.append_ #[t,t2] rty #[v,v2]).run P w = .ok v' w'∧(∀H',lh i (aB elem te.info.size v' (nn+mm) (cs++news)) H [] = .mk H'→Sat G w' H'):=by
  have NX:∀B H',lh i B H [] = .mk H'→H'.Perm (B::H.eraseIdx i):=fun B H' hp=>by simpa using oz i _ _ H [] H' hp hi
  have ack:∃h,aB elem te.info.size v nn cs h:=by obtain⟨h,_,hA⟩:=hw.kQ hi;exact⟨h,hA⟩
  have dK:=Vw.oD _ _ _ _ _ ack
  have BU:=nz (P:=P) uh hw hj rf
  obtain⟨a2,c2,ab7,_⟩:=uh
  subst ab7
  have NS:=hw.cy (ao.perm (cZ (by rw[← dA];exact hi)))
  obtain⟨hT,hO,Q',hh,er,h1,h2h,sm,Sr,aa0,Ob⟩:=NS
  obtain⟨hl,iv⟩:=sm
  have uH:∀ {w:World},(underlying t2).run P w = .ok FD.gC w:=fun {w}=>run_underlying h2 w
  have Yi:(FD.gC matches .int _)=false:=by
    cases hq:FD.gC <;> first|rfl|exact absurd hq (Rh _)
  have abH:=nz (P:=P) dK hw hi hl
  by_cases pS:∃a cap,v = .slice a nn cap∧nn+mm≤cap
  · obtain⟨a,cap,rfl,pS⟩:=pS
    rcases iv with⟨a',hv,QW,Ei⟩|⟨b,o,gD,pre,bQ,hv,hp,hn,hc,QQ⟩
    · simp only[Value.slice.injEq]at hv
      obtain⟨rfl,rfl,rfl⟩:=hv
      have zu:mm=0:=by omega
      subst zu
      have si:cs=[]:=List.eq_nil_of_length_eq_zero (by simpa using hl)
      have aaw:news=[]:=List.eq_nil_of_length_eq_zero (by simpa using rf)
      subst si;subst aaw
      refine⟨.slice a 0 0,w,?_,fun H' hp=>?_⟩
      · cases a with
        | none=>simp[Builtin.append_,run_underlying ht,hu,run_sizeOf he,uH,Yi,Builtin.lenOf,BU]
        | some a=>simp[Builtin.append_,run_underlying ht,hu,run_sizeOf he,uH,Yi,Builtin.lenOf,BU,storeCells]
      · refine(show Sat G w (aB elem te.info.size (.slice a 0 0) 0 []::H.eraseIdx i)from ?_).cy (ao.perm (NX _ _ hp).symm)
        exact⟨hT,hO,Q',hh,er,h1,h2h,⟨hl,.inl ⟨a,rfl,rfl,Ei⟩⟩,Sr,aa0,Ob⟩
    · simp only[Value.slice.injEq]at hv
      obtain⟨rfl,_,rfl⟩:=hv
      have yj:news.length≤bQ.length:=by
        have h3:(nn+mm)*te.info.size≤cap*te.info.size:=Nat.mul_le_mul_right _ pS
        rw[Nat.add_mul,← hl,← rf]at h3
        omega
      have hb:w.heap[b]?=some (cl (pre++cs++bQ) elem):=by
        refine er b _ ?_
        rw[Ob b,QQ b];simp
      have cF:=gm (P:=P) news 0 (o+nn*te.info.size) (pre++cs++bQ) w hb (by simp;omega) gu
      simp only[Nat.add_zero]at cF
      rw[← hl,uq pre cs bQ news o hp]at cF
      refine⟨.slice (some ⟨b,o,none⟩) (nn+mm) cap,{ w with heap:=w.heap.setIfInBounds b (cl (pre++(cs++news)++bQ.drop news.length) elem) },?_,fun H' sG=>?_⟩
      · rw[hl]at cF
        simp[Builtin.append_,run_underlying ht,hu,run_sizeOf he,uH,Yi,Builtin.lenOf,pS,BU,Addr.add_eq,cF]
      · have h4:=Sat.Bu (o':=cl (pre++(cs++news)++bQ.drop news.length) elem) (show Sat G w (ag b (cl (pre++cs++bQ) elem)::H.eraseIdx i)from⟨hT,hO,Q',hh,er,h1,h2h,QQ,Sr,aa0,Ob⟩)
        refine(h4.cy ?_).cy (ao.perm (NX _ _ sG).symm)
        refine ao.fold (B:=[_]) fun h hs=>⟨h,sub.refl h,?_⟩
        refine⟨by simp[hl,rf,Nat.add_mul],.inr ⟨b,o,cap,pre,_,rfl,hp,pS,?_,eN hs⟩⟩
        simp;omega
  · have hvs:∃a cap,v = .slice a nn cap:=by obtain⟨a,cap,hv,_⟩:=dK;exact⟨a,cap,hv⟩
    obtain⟨a,cap,rfl⟩:=hvs
    have PV:¬nn+mm≤cap:=fun h=>pS ⟨a,cap,rfl,h⟩
    have hgs:=growslice_fits (need:=nn+mm) (old:=cap) (bytes:=te.info.bytes) ah pY
    have fq:=grownCap_ge w (nn+mm) cap elem
    have hzc:z.cells=(aX z).toArray:=dH z
    refine⟨.slice (some ⟨w.heap.size,0,none⟩) (nn+mm) (grownCap w (nn+mm) cap elem),w.drew.alloc (cl (cs++news++(Builtin.zeroCells z.cells (grownCap w (nn+mm) cap elem-(nn+mm))).toList) elem),?_,fun H' sG=>?_⟩
    · have KG:=nz (P:=P) (G:=G) (w:=w.drew) dK (hw.draw _) hi hl
      have acM:=nz (P:=P) (G:=G) (w:=w.drew) ⟨a2,c2,rfl,by assumption⟩ (hw.draw _) hj rf
      have GX:¬((9223372036854775807:Int)<(nn:Int)+(mm:Int)):=by omega
      have W1:¬281474976710656<Builtin.nextslicecap (nn+mm) cap*te.info.bytes:=by omega
      simp[Builtin.append_,run_underlying ht,hu,run_sizeOf he,uH,Yi,Builtin.lenOf,PV,GX,W1,Question.forced,run_typeInfo he,dN he hz,newRow,KG,acM,grownCap,cl]
      congr 2
      apply Array.ext'
      simp
    · have h5 : Sat G (w.drew.alloc (cl (cs ++ news ++ (Builtin.zeroCells z.cells (grownCap w (nn + mm) cap elem - (nn + mm))).toList) elem))
          (ag w.heap.size (cl (cs++news++(Builtin.zeroCells z.cells (grownCap w (nn+mm) cap elem-(nn+mm))).toList) elem)::H.eraseIdx i):=by
        have h6:Sat G w (H.eraseIdx i):=(hw.cy (ao.perm (cZ (by rw[← dA];exact hi)))).cy (ao.drop _ _)
        exact Sat.alloc (w:=w.drew) (h6.draw _) _
      refine(h5.cy ?_).cy (ao.perm (NX _ _ sG).symm)
      refine ao.fold (B:=[_]) fun h hs=>⟨h,sub.refl h,?_⟩
      refine⟨by simp[hl,rf,Nat.add_mul],.inr ⟨w.heap.size,0,_,[],_,rfl,rfl,fq,?_,by simpa using eN hs⟩⟩
      have h7:(Builtin.zeroCells z.cells (grownCap w (nn+mm) cap elem-(nn+mm))).size=(grownCap w (nn+mm) cap elem-(nn+mm))*te.info.size:=by rw[size_zeroCells,hzc];simp[L4]
      rw[List.length_append,hl,rf,Array.length_toList,h7,← Nat.add_mul,← Nat.add_mul]
      exact Nat.le_of_eq (by congr 1;omega)
theorem Pu{x y:Operand}{t t2 elem:TypeId}{bM FD te:Ty}{z v v2:Value}{nn mm:Nat}{cs news:List Value}{A:HP}(i j:Nat)(hd:Nat.blt d n=true)(hx:ev L x=some v)(hy:ev L y=some v2)(ht:U.get t=some bM)(hu:bM.gC = .slice elem)(h2:U.get t2=some FD)(Rh:(match FD.gC with | .int _=>false|_=>true)=true)(he:U.get elem=some te)(hz:te.info.zero=some z)(L4:Nat.beq (aX z).length te.info.size=true)(hi:cq H i=some (aB elem te.info.size v nn cs))(hj:cq H j=some A)(uh:Vw A v2 mm news)(rf:news.length=mm*te.info.size)(gu:∀u∈news,u.oneCell'=true)(KD:nn+mm≤9223372036854775807)(pY:(nn+mm)*te.info.bytes≤140737488355328){Hf:Value→List HP}(hp:∀v',lh i (aB elem te.info.size v' (nn+mm) (cs++news)) H [] = .mk (Hf v'))(hS:∀v' w,Sat G w (Hf v')→Sx rest S w)(h:∀v',J P f n R G S all rest k ((d,v')::L) (Hf v')) :
  J P f n R G S all (.cons false true ⟨some d,.call { callee := .builtin .append,args := #[x,y],argTypes := #[t,t2] },ty,pos,af,gd⟩ rest) k L H:=by
 refine n6 hd (fun u H1=>H1=Hf u) (fun a w ha hw=>?_) ?_ ?_
 ·obtain⟨v',w',hr,hs⟩:=Gg (P:=P) (rty:=ty) i j ht hu h2 (fun q e=>by rw[e]at Rh;cases Rh) he hz (Nat.eq_of_beq_eq_true L4) hw hi hj uh rf gu KD pY
  refine⟨v',w',_,?_,rfl,hs _ (hp v')⟩
  simp[execOp,resolve,invoke,builtin,ha.ev hx,ha.ev hy,hr]
 ·rintro u H1 w rfl hw;exact hS u w hw
 ·rintro u H1 rfl;exact h u
theorem Pr{x y:Operand}{t t2 elem:TypeId}{bM te:Ty}{v2:Value}{b o dl dc mm:Nat}{l src l':List Value}{e:TypeId}{A:HP}(i j:Nat)(hd:Nat.blt d n=true)(hx:ev L x=some (.slice (some ⟨b,o,none⟩) dl dc))(hy:ev L y=some v2)(ht:U.get t=some bM)(hu:bM.gC = .slice elem)(he:U.get elem=some te)(hi:cq H i=some (ag b (cl l e)))(hj:cq H j=some A)(uh:Vw A v2 mm src)(rf:src.length=mm*te.info.size)(gu:∀u∈src,u.oneCell'=true)(yj:o+(min mm dl)*te.info.size≤l.length)(KH:l'=l.take o++src.take (min mm dl*te.info.size)++l.drop (o+min mm dl*te.info.size))(hp:lh i (ag b (cl l' e)) H [] = .mk H')(hS:∀w,Sat G w H'→Sx rest S w)(h:J P f n R G S all rest k ((d,.int .i64 (min mm dl:Nat))::L) H') :
  J P f n R G S all (.cons false true ⟨some d,.call { callee := .builtin .copy,args := #[x,y],argTypes := #[t,t2] },ty,pos,af,gd⟩ rest) k L H:=by
 refine n6 hd (fun u H1=>u = .int .i64 (min mm dl:Nat)∧H1=H') (fun a w ha hw=>?_) ?_ ?_
 ·have hf:=xz (P:=P) (q:=min mm dl) uh hw hj rf (Nat.min_le_left _ _)
  obtain⟨a2,c2,Wo,_⟩:=uh
  subst Wo
  have h3:(src.take (min mm dl*te.info.size)).length=min mm dl*te.info.size:=by rw[List.length_take,rf];exact Nat.min_eq_left (Nat.mul_le_mul_right _ (Nat.min_le_left _ _))
  have cF:=gm (P:=P) (src.take (min mm dl*te.info.size)) 0 o l w (hw.tD hi) (by rw[h3];simpa using yj) (fun u hu=>gu u (List.mem_of_mem_take hu))
  simp only[Nat.add_zero,h3,← KH]at cF
  refine⟨_,_,H',?_,⟨rfl,rfl⟩,hw.put hi hp⟩
  simp only[execOp,resolve,invoke,builtin,Sem.run_bind,Sem.run_pure,Result.andThen_ok,List.map_toArray,List.map_cons,List.map_nil,ha.ev hx,ha.ev hy,Builtin.copy_,List.getElem?_toArray,List.getElem?_cons_zero,List.getElem?_cons_succ,
   run_underlying ht,hu,Builtin.lenOf,run_sizeOf he]
  rw[show Nat.min mm dl=min mm dl from rfl]
  simp only[hf,Result.andThen_ok,cF,goInt]
 ·rintro u H1 w⟨rfl,rfl⟩ hw;exact hS w hw
 ·rintro u H1⟨rfl,rfl⟩;exact h
theorem mW{x y:Operand}{t elem:TypeId}{bM te:Ty}{z:Value}{p q:Nat}(hd:Nat.blt d n=true)(hx:ev L x=some (.int .i64 (p:Int)))(hy:ev L y=some (.int .i64 (q:Int)))(ht:U.get t=some bM)(hu:bM.gC = .slice elem)(he:U.get elem=some te)(hz:te.info.zero=some z)(L4:Nat.beq (aX z).length 1=true)(abV:Nat.beq te.info.size 1=true)(D7:p≤q)(KD:q≤9223372036854775807)(pY:te.info.bytes*q≤281474976710656)(hS:∀b w,Sat G w (ag b (cl (List.replicate q ((aX z).headD undef)) elem)::H)→Sx rest S w)(h:∀b,J P f n R G S all rest k ((d,.slice (some ⟨b,0,none⟩) p q)::L) (ag b (cl (List.replicate q ((aX z).headD undef)) elem)::H)) :
  J P f n R G S all (.cons false true ⟨some d,.makeSlice t x y,ty,pos,af,gd⟩ rest) k L H:=by
 refine n6 hd (fun u H1=>∃b,u = .slice (some ⟨b,0,none⟩) p q∧H1=ag b (cl (List.replicate q ((aX z).headD undef)) elem)::H) (fun a w ha hw=>?_) ?_ ?_
 ·refine⟨_,_,_,?_,⟨w.heap.size,rfl,rfl⟩,hw.alloc _⟩
  have h1:te.info.size=1:=Nat.eq_of_beq_eq_true abV
  have h2:(aX z).length=1:=Nat.eq_of_beq_eq_true L4
  obtain⟨u,RZ⟩:∃u,aX z=[u]:=List.length_eq_one_iff.1 h2
  have wq:IntKind.i64.wrap (q:Int)=q:=cK (by simp only[gg];omega)
  have wp:IntKind.i64.wrap (p:Int)=p:=cK (by simp only[gg];omega)
  have hb:¬((281474976710656:Int)<(te.info.bytes:Int)*(q:Int)):=by omega
  have acr:¬((q:Int)<(p:Int)):=by omega
  have G1:z.cells = #[u]:=by rw[dH,RZ]
  have Ye:¬((q:Int)<0):=by omega
  have IM:¬((p:Int)<0):=by omega
  by_cases h0:q=0
  ·subst h0
   have acx:p=0:=by omega
   subst acx
   have w0:IntKind.i64.wrap 0=0:=cK (by simp only[gg];omega)
   simp[execOp,ha.ev hx,ha.ev hy,Instr.makeSlice,run_underlying ht,hu,asInt,asIntOf,run_typeInfo he,w0,run_sizeOf he,h1,newRow,cl]
   congr 2
   apply Array.ext'
   simp
  ·have si:(Array.range q).map (fun i=>(#[u]:Array Value)[i%(#[u]:Array Value).size]!)=(List.replicate q u).toArray:=by
    apply Array.ext'
    simp only[Array.toList_map,Array.toList_range]
    apply List.ext_getElem?
    intro j
    by_cases hj:j<q
    ·simp[hj,List.getElem?_replicate,Nat.mod_one]
    ·simp[List.getElem?_eq_none,Nat.le_of_not_lt hj]
   have iH:(Instr.makeSlice t (.int .i64 (p:Int)) (.int .i64 (q:Int))).run P w = .ok (.slice (some ⟨w.heap.size,0,none⟩) p q) { w with heap:=w.heap.push (.cells (List.replicate q u).toArray elem) }:=by
    unfold Instr.makeSlice
    simp only[Sem.run_bind,run_underlying ht,Result.andThen_ok,hu,asInt,asIntOf,Sem.run_pure,run_typeInfo he,wp,wq]
    rw[if_neg (by simp[hb,acr])]
    simp only[pure_bind,Sem.run_bind,run_askRoom,Result.andThen_ok,run_sizeOf he,h1,Nat.mul_one,Int.toNat_natCast,h0,if_false,dN he hz,Sem.run_pure,G1,si,newRow,run_newObj]
   simp only[execOp,ha.ev hx,ha.ev hy,Sem.run_bind,iH,Result.andThen_ok,Sem.run_pure,RZ,List.headD_cons,cl]
 ·rintro u H1 w⟨b,rfl,rfl⟩ hw;exact hS b w hw
 ·rintro u H1⟨b,rfl,rfl⟩;exact h b
def Kj(L:fC):Option Operand→Option Int
 | none=>some 0
 | some x=>match ev L x with
  | some (.int _ l)=>some l
  | _=>none
def AM(L:fC)(len:Nat):Option Operand→Option Int
 | none=>some (len:Int)
 | some x=>match ev L x with
  | some (.int _ l)=>some l
  | _=>none
theorem rX{lo hi:Option Operand}{len cap:Nat}{p q:Int}{a:Act}{w:World}(isSlice:Bool)(ha:Has n L a)(AH:Kj L lo=some p)(FJ:AM L len hi=some q)(h0:0≤p)(D7:p≤q)(WB:hi=none∨q≤(cap:Int)) :
  (Instr.sliceBounds isSlice len cap (lo.map a.eval) (hi.map a.eval) none).run P w = .ok (p.toNat,q.toNat,cap) w:=by
 have hh:(match hi.map a.eval with|some v=>Instr.sliceBound v cap (if isSlice then .sliceAcap else .sliceAlen)|none=>pure len:Sem Nat).run P w = .ok q.toNat w:=by
  cases hi with
  | none=>simp only[AM,Option.some.injEq]at FJ;subst FJ;simp
  | some x =>
   simp only[AM]at FJ
   split at FJ
   ·rename_i j l hx
    cases FJ
    simp only[Option.map_some,ha.ev hx,Instr.sliceBound,asIntOf,Sem.run_bind,Sem.run_pure,Result.andThen_ok]
    rw[if_pos ⟨ah,WB.resolve_left (by simp)⟩];rfl
   ·cases FJ
 have hl:(match lo.map a.eval with|some v=>Instr.sliceBound v q.toNat .sliceB|none=>pure 0:Sem Nat).run P w = .ok p.toNat w:=by
  cases lo with
  | none=>simp only[Kj,Option.some.injEq]at AH;subst AH;simp
  | some x =>
   simp only[Kj]at AH
   split at AH
   ·rename_i j l hx
    cases AH
    simp only[Option.map_some,ha.ev hx,Instr.sliceBound,asIntOf,Sem.run_bind,Sem.run_pure,Result.andThen_ok]
    rw[if_pos ⟨h0,ah⟩];rfl
   ·cases AH
 unfold Instr.sliceBounds
 cases hi with
 | none =>
  cases lo with
  | none=>simp at hh hl ⊢;exact⟨hl.symm ▸ rfl,hh⟩
  | some x=>simp at hh hl ⊢;simp[hl,hh]
 | some y =>
  cases lo with
  | none=>simp at hh hl ⊢;simp[hl,hh]
  | some x=>simp at hh hl ⊢;simp[hl,hh]
theorem RH{t elem:TypeId}{bM te:Ty}{x:Operand}{lo hi:Option Operand}{b o len cap:Nat}{p q:Int}(hd:Nat.blt d n=true)(ht:U.get t=some bM)(hu:bM.gC = .slice elem)(he:U.get elem=some te)(hx:ev L x=some (.slice (some ⟨b,o,none⟩) len cap))(AH:Kj L lo=some p)(FJ:AM L len hi=some q)(h0:0≤p)(D7:p≤q)(WB:hi=none∨q≤(cap:Int))(h:∀o',(p.toNat≠cap→o'=o+p.toNat*te.info.size)→(p.toNat=cap→o'=o)→J P f n R G S all rest k ((d,.slice (some ⟨b,o',none⟩) (q.toNat-p.toNat) (cap-p.toNat))::L) H) :
  J P f n R G S all (.cons m true ⟨some d,.slice t x lo hi none,ty,pos,af,gd⟩ rest) k L H:=by
 refine dk hd (v := .slice (some ⟨b,if p.toNat=cap then o else o+p.toNat*te.info.size,none⟩) (q.toNat-p.toNat) (cap-p.toNat)) (fun a ha w=>?_) (h _ (fun e=>if_neg e) (fun e=>if_pos e))
 have hr:=rX (P:=P) (w:=w) true ha AH FJ h0 D7 WB
 simp only[execOp,ha.ev hx,Instr.sliceAt,Sem.run_bind,run_underlying ht,Result.andThen_ok,hu,Instr.slice,Option.map_none,hr,run_sizeOf he,Sem.run_pure]
 by_cases hc:p.toNat=cap
 ·simp[hc]
 ·simp only[if_neg hc,if_neg (Ne.symm hc),Option.map_some,Addr.add_eq]
def sliceAt(a0:Option Addr)(cap p size:Nat):Option Addr:=if p=cap then a0 else a0.map fun a=>a.add (p*size)
theorem HI{t elem:TypeId}{bM te:Ty}{x:Operand}{lo hi:Option Operand}{a0:Option Addr}{len cap:Nat}{p q:Int}(hd:Nat.blt d n=true)(ht:U.get t=some bM)(hu:bM.gC = .slice elem)(he:U.get elem=some te)(hx:ev L x=some (.slice a0 len cap))(AH:Kj L lo=some p)(FJ:AM L len hi=some q)(h0:0≤p)(D7:p≤q)(WB:hi=none∨q≤(cap:Int))(h:J P f n R G S all rest k ((d,.slice (sliceAt a0 cap p.toNat te.info.size) (q.toNat-p.toNat) (cap-p.toNat))::L) H) :
  J P f n R G S all (.cons m true ⟨some d,.slice t x lo hi none,ty,pos,af,gd⟩ rest) k L H:=by
 refine dk hd (fun a ha w=>?_) h
 have hr:=rX (P:=P) (w:=w) true ha AH FJ h0 D7 WB
 simp only[execOp,ha.ev hx,Instr.sliceAt,Sem.run_bind,run_underlying ht,Result.andThen_ok,hu,Instr.slice,Option.map_none,hr,run_sizeOf he,Sem.run_pure,sliceAt]
 by_cases hc:p.toNat=cap
 ·simp[hc]
 ·simp only[if_neg (Ne.symm hc),if_neg hc]
theorem zd{t:TypeId}{bM:Ty}{x:Operand}{lo hi:Option Operand}{s:ByteArray}{p q:Int}(hd:Nat.blt d n=true)(ht:U.get t=some bM)(hu:bM.gC = .string)(hx:ev L x=some (.string s))(AH:Kj L lo=some p)(FJ:AM L s.size hi=some q)(h0:0≤p)(D7:p≤q)(WB:q≤(s.size:Int))(h:J P f n R G S all rest k ((d,.string (s.extract p.toNat q.toNat))::L) H) :
  J P f n R G S all (.cons m true ⟨some d,.slice t x lo hi none,ty,pos,af,gd⟩ rest) k L H:=by
 refine dk hd (fun a ha w=>?_) h
 have hr:=rX (P:=P) (w:=w) false ha AH FJ h0 D7 (.inr WB)
 simp only[execOp,ha.ev hx,Instr.sliceAt,Sem.run_bind,run_underlying ht,Result.andThen_ok,hu,Instr.slice,Option.map_none,hr,Option.isSome_none,Bool.false_eq_true,if_false,Sem.run_pure]
theorem Ff{t elem:TypeId}{bM te:Ty}{x y:Operand}{j:IntKind}{b o len cap:Nat}{p:Int}(hd:Nat.blt d n=true)(ht:U.get t=some bM)(hu:bM.gC = .slice elem)(he:U.get elem=some te)(hx:ev L x=some (.slice (some ⟨b,o,none⟩) len cap))(hy:ev L y=some (.int j p))(h0:0≤p)(hp:p<(len:Int))(h:J P f n R G S all rest k ((d,.pointer (some ⟨b,o+p.toNat*te.info.size,none⟩))::L) H) :
  J P f n R G S all (.cons m true ⟨some d,.indexAddr t x y,ty,pos,af,gd⟩ rest) k L H:=by
 refine dk hd (fun a ha w=>?_) h
 simp only[execOp,ha.ev hx,ha.ev hy,Instr.indexAt,asIntOf,Sem.run_bind,Sem.run_pure,run_underlying ht,Result.andThen_ok,hu]
 rw[if_pos ⟨h0,hp⟩]
 simp only[Sem.run_bind,run_sizeOf he,Result.andThen_ok,Sem.run_pure,Addr.add_eq]
theorem abF{t elem:TypeId}{bM te:Ty}{x y:Operand}{j:IntKind}{b o len cap:Nat}{p:Int}(q sz:Nat)(hd:Nat.blt d n=true)(ht:U.get t=some bM)(hu:bM.gC = .slice elem)(he:U.get elem=some te)(hs:te.info.size=sz)(hx:ev L x=some (.slice (some ⟨b,o,none⟩) len cap))(hy:ev L y=some (.int j p))(hq:p=(q:Int))(cW:q<len)(h:J P f n R G S all rest k ((d,.pointer (some ⟨b,o+q*sz,none⟩))::L) H) :
  J P f n R G S all (.cons m true ⟨some d,.indexAddr t x y,ty,pos,af,gd⟩ rest) k L H:=by
 subst hq;subst hs
 exact Ff hd ht hu he hx hy ah ah (by simpa using h)
theorem abE{t elem:TypeId}{bM te:Ty}{x y:Operand}{j:IntKind}{b o len cap:Nat}{p:Int}(q:Nat)(hd:Nat.blt d n=true)(ht:U.get t=some bM)(hu:bM.gC = .slice elem)(he:U.get elem=some te)(hs:te.info.size=1)(hx:ev L x=some (.slice (some ⟨b,o,none⟩) len cap))(hy:ev L y=some (.int j p))(hq:p=(q:Int))(cW:q<len)(h:J P f n R G S all rest k ((d,.pointer (some ⟨b,o+q,none⟩))::L) H) :
  J P f n R G S all (.cons m true ⟨some d,.indexAddr t x y,ty,pos,af,gd⟩ rest) k L H :=
 abF q 1 hd ht hu he hs hx hy hq cW (by simpa using h)
theorem zg{t elem:TypeId}{bM te:Ty}{x y:Operand}{j:IntKind}{b o len:Nat}{p:Int}(hd:Nat.blt d n=true)(ht:U.get t=some bM)(hu:bM.gC = .array len elem)(he:U.get elem=some te)(hx:ev L x=some (.pointer (some ⟨b,o,none⟩)))(hy:ev L y=some (.int j p))(h0:0≤p)(hp:p<(len:Int))(h:J P f n R G S all rest k ((d,.pointer (some ⟨b,o+p.toNat*te.info.size,none⟩))::L) H) :
  J P f n R G S all (.cons m true ⟨some d,.indexAddr t x y,ty,pos,af,gd⟩ rest) k L H:=by
 refine dk hd (fun a ha w=>?_) h
 simp only[execOp,ha.ev hx,ha.ev hy,Instr.indexAt,asIntOf,Sem.run_bind,Sem.run_pure,run_underlying ht,Result.andThen_ok,hu,Instr.sureAddr]
 rw[if_pos ⟨h0,hp⟩]
 simp only[Sem.run_bind,run_sizeOf he,Result.andThen_ok,Sem.run_pure,Addr.add_eq]
def uV(s:ByteArray)(i:Nat):UInt8:=s.data.toList.getD i 0
theorem sD{t:TypeId}{bM:Ty}{x y:Operand}{j:IntKind}{s:ByteArray}{p:Int}(hd:Nat.blt d n=true)(ht:U.get t=some bM)(hu:bM.gC = .string)(hx:ev L x=some (.string s))(hy:ev L y=some (.int j p))(h0:0≤p)(hp:p<(s.size:Int))(h:J P f n R G S all rest k ((d,.int .u8 ((uV s p.toNat).toNat:Int))::L) H) :
  J P f n R G S all (.cons m true ⟨some d,.index t x y,ty,pos,af,gd⟩ rest) k L H:=by
 refine dk hd (fun a ha w=>?_) h
 have cW:p.toNat<s.size:=by omega
 have hb:s[p.toNat]?=some (uV s p.toNat):=by
  have h1:p.toNat<s.data.size:=cW
  have h2:s[p.toNat]?=some s[p.toNat]:=by simp[cW]
  rw[h2]
  congr 1
  unfold uV
  rw[List.getD_eq_getElem?_getD,Array.getElem?_toList,Array.getElem?_eq_getElem h1]
  rfl
 simp[execOp,ha.ev hx,ha.ev hy,Instr.index,asIntOf,run_underlying ht,hu,h0,hb]
theorem zh{t elem:TypeId}{bM te:Ty}{x y:Operand}{j:IntKind}{cs:Array Value}{len:Nat}{p:Int}{v:Value}(hd:Nat.blt d n=true)(ht:U.get t=some bM)(hu:bM.gC = .array len elem)(he:U.get elem=some te)(hg:te.isAgg=false)(h1:Nat.beq te.info.size 1=true)(hx:ev L x=some (.agg cs))(hy:ev L y=some (.int j p))(h0:0≤p)(hp:p<(len:Int))(hv:cs.toList[p.toNat]?=some v)(h:J P f n R G S all rest k ((d,v)::L) H) :
  J P f n R G S all (.cons m true ⟨some d,.index t x y,ty,pos,af,gd⟩ rest) k L H:=by
 refine dk hd (fun a ha w=>?_) h
 have Wo:cs[p.toNat]?=some v:=by simpa using hv
 have h1':te.info.size=1:=Nat.eq_of_beq_eq_true h1
 simp[execOp,ha.ev hx,ha.ev hy,Instr.index,asIntOf,run_underlying ht,hu,h0,hp,run_sizeOf he,h1',part,qA he,hg,Wo]
theorem tW{t:TypeId}{x:Operand}{b off:Nat}{bM:Ty}{v:Value}{A:HP}(i:Nat)(hd:Nat.blt d n=true)(hx:ev L x=some (.pointer (some ⟨b,off,none⟩)))(hi:cq H i=some A)(hv:∀h,A h→dL h b off=some v)(ht:U.get t=some bM)(hg:bM.isAgg=false)(h:J P f n R G S all rest k ((d,v)::L) H):J P f n R G S all (.cons false true ⟨some d,.load t x,ty,pos,af,gd⟩ rest) k L H :=
 wJ hd hx (fun w hw=>by
  obtain⟨h,hh,hA⟩:=hw.kQ hi
  exact dO hh (hv h hA)) ht hg h
def u8(x:UInt8):Value := .int .u8 (x.toNat:Int)
def bV(bs:List UInt8):List Value:=bs.map u8
theorem bt(bs:List UInt8):(bV bs).length=bs.length:=by simp[bV]
theorem cR(bs:List UInt8):∀u∈bV bs,u.oneCell'=true:=by
 intro u hu
 simp only[bV,List.mem_map]at hu
 obtain⟨x,_,rfl⟩:=hu
 rfl
theorem foldl_push(bs:List UInt8):∀s:ByteArray,(bs.map fun x=>(x.toNat:Int)).foldl (fun r n=>r.push (UInt8.ofNat n.toNat)) s=⟨(s.data.toList++bs).toArray⟩:=by
 induction bs with
 | nil=>intro s;simp
 | cons x l ih =>
  intro s
  simp only[List.map_cons,List.foldl_cons,ih]
  simp[ByteArray.push]
def strOf(bs:List UInt8):ByteArray:=⟨bs.toArray⟩
theorem xi(s:ByteArray):strOf s.data.toList=s:=by simp[strOf]
theorem Ae{a b:List UInt8}:strOf a=strOf b↔a=b:=by
 constructor
 ·intro h;have:=congrArg (fun s:ByteArray=>s.data.toList) h;simpa[strOf]using this
 ·rintro rfl;rfl
theorem AU{a b:List UInt8}:Sw (strOf a) (strOf b)=decide (a=b):=by
 rw[Bool.eq_iff_iff,Rq,Ae];simp
theorem Cs{src dst e:TypeId}{ts td te:Ty}{x:Operand}{v:Value}{A:HP}{bs:List UInt8}(i:Nat)(hd:Nat.blt d n=true)(hx:ev L x=some v)(hs:U.get src=some ts)(Kw:ts.gC = .slice e)(he:U.get e=some te)(heu:te.gC = .int .u8)(KP:U.get dst=some td)(KO:td.gC = .string)(hi:cq H i=some A)(hv:Vw A v bs.length (bV bs))(h:J P f n R G S all rest k ((d,.string (strOf bs))::L) H):J P f n R G S all (.cons false true ⟨some d,.convert src dst x,ty,pos,af,gd⟩ rest) k L H:=by
 refine ku hd (fun a w ha hw=>?_) h
 obtain⟨a0,cap,rfl,h0|⟨b,o,rfl,hc⟩⟩:=hv.cells hw hi
 ·have hb:bs=[]:=by simpa[bV]using h0
  subst hb
  cases a0 with
  | none =>
   simp only[execOp,ha.ev hx,Sem.run_bind]
   rw[run_convert_bytes_string w src dst e _ _ _ (by rw[jG (P:=P) hs,Kw]) (by rw[jG (P:=P) he,heu]) (by rw[jG (P:=P) KP,KO])]
   simp[Conv.bytesToString,strOf]
   rfl
  | some a1 =>
   simp only[execOp,ha.ev hx,Sem.run_bind]
   rw[run_convert_bytes_string w src dst e _ _ _ (by rw[jG (P:=P) hs,Kw]) (by rw[jG (P:=P) he,heu]) (by rw[jG (P:=P) KP,KO])]
   rw[run_bytesToString w a1 _ _ [] (by simp[loadCells,loadCellsFrom])]
   simp[strOf]
   rfl
 ·have h1:=run_loadCells_list (P:=P) w ⟨b,o,none⟩ (bV bs) (fun j c hj=>by rw[Addr.add_eq];exact hc j c hj)
  rw[bt]at h1
  simp only[execOp,ha.ev hx,Sem.run_bind]
  rw[run_convert_bytes_string w src dst e _ _ _ (by rw[jG (P:=P) hs,Kw]) (by rw[jG (P:=P) he,heu]) (by rw[jG (P:=P) KP,KO])]
  rw[run_bytesToString w _ _ _ (bs.map fun x=>(x.toNat:Int)) (by rw[h1];simp[bV,u8]),foldl_push]
  simp[strOf]
def aZ(b:Nat)(s:ByteArray)(e:TypeId)(cap:Nat):HP:=ag b (.cells (bytesRow s cap) e ((bytesRow s cap).size,(bytesRow s cap).size+1))
theorem Ga(b:Nat)(s:ByteArray)(e:TypeId)(cap gD:Nat):Vw (aZ b s e cap) (.slice (some ⟨b,0,none⟩) s.size gD) s.size (bV s.data.toList):=by
 refine⟨_,gD,rfl,.inr ⟨b,0,rfl,fun h hA j c hj=>?_⟩⟩
 unfold dL
 rw[hA b,if_pos rfl]
 simp only[bytesRow,Nat.zero_add]
 have cW:j<s.data.size:=by
  rcases Nat.lt_or_ge j s.data.size with h|h
  ·exact h
  ·rw[bV,List.getElem?_eq_none (by simpa using h)]at hj;cases hj
 simp only[bV]at hj
 rw[Array.getElem?_append_left (by simpa using cW)]
 simpa[cW,u8]using hj
theorem LH{src dst e:TypeId}{ts td te:Ty}{x:Operand}{s:ByteArray}(hd:Nat.blt d n=true)(hx:ev L x=some (.string s))(hs:U.get src=some ts)(Kw:ts.gC = .string)(KP:U.get dst=some td)(KO:td.gC = .slice e)(he:U.get e=some te)(heu:te.gC = .int .u8)(hS:∀b cap w,Sat G w (aZ b s e cap::H)→Sx rest S w)(h:∀b cap,J P f n R G S all rest k ((d,.slice (some ⟨b,0,none⟩) s.size cap)::L) (aZ b s e cap::H)):J P f n R G S all (.cons false true ⟨some d,.convert src dst x,ty,pos,af,gd⟩ rest) k L H:=by
 refine n6 hd (fun u H1=>∃b cap,u = .slice (some ⟨b,0,none⟩) s.size cap∧H1=aZ b s e cap::H) (fun a w ha hw=>?_) ?_ ?_
 ·refine⟨_,w.drew.alloc (.cells (bytesRow s (grownCap w s.size 0 e)) e ((bytesRow s (grownCap w s.size 0 e)).size,(bytesRow s (grownCap w s.size 0 e)).size+1)),_,?_,⟨w.heap.size,grownCap w s.size 0 e,rfl,rfl⟩,?_⟩
  ·have:=run_bytes_of_string (P:=P) w src dst e s (by rw[jG (P:=P) hs,Kw]) (by rw[jG (P:=P) KP,KO]) (by rw[jG (P:=P) he,heu])
   simp only[execOp,ha.ev hx,Sem.run_bind,this,Result.andThen_ok,Sem.run_pure]
  ·exact Sat.alloc (w:=w.drew) (hw.draw _) _
 ·rintro u H1 w⟨b,cap,rfl,rfl⟩ hw;exact hS b cap w hw
 ·rintro u H1⟨b,cap,rfl,rfl⟩;exact h b cap
end
end Go.SL
namespace Go.SL
structure mh(P:Program)(kt:TypeId){κ:Type}(kv:κ→Value):Prop where
 inj:∀a b,kv a=kv b→a=b
 check:∀(e:Bool) (k:κ) (w:World),(Instr.checkKey e 10000 kt (kv k)).run P w = .ok () w
 find:∀(k:κ) (l:List MapEntry) (ks:List κ) (w:World),l.map (·.key)=ks.map kv →
  ∃r,(Instr.findKey kt (kv k) l).run P w = .ok r w ∧
   ((r=none∧k ∉ ks)∨∃i e,r=some (i,e.val)∧l[i]?=some e∧ks[i]?=some k∧∀j,j<i→ks[j]? ≠ some k)
 bits:∀k,Instr.sameBits 10000 (kv k) (kv k)=true
theorem findNow_spec{κ:Type}{kv:κ→Value}{kind:TypeDesc}[DecidableEq κ](hs:∀a b,Instr.sameNow kind (kv a) (kv b)=some (decide (a=b)))(k:κ) :
  ∀(l:List MapEntry) (ks:List κ) (o:Nat),l.map (·.key)=ks.map kv →
   ∃r,Instr.findNow kind (kv k) l o=some r∧((r=none∧k ∉ ks)∨∃i e,r=some (o+i,e.val)∧l[i]?=some e∧ks[i]?=some k∧∀j,j<i→ks[j]? ≠ some k):=by
 intro l
 induction l with
 | nil =>
  intro ks o h
  have:ks=[]:=by simpa using h.symm
  subst this
  exact⟨none,rfl,.inl ⟨rfl,by simp⟩⟩
 | cons e l ih =>
  intro ks o h
  cases ks with
  | nil=>simp at h
  | cons c ks =>
   simp only[List.map_cons,List.cons.injEq]at h
   obtain⟨h1,h2⟩:=h
   simp only[Instr.findNow,h1,hs]
   by_cases IT:k=c
   ·subst IT
    refine⟨_,by simp;rfl,.inr ⟨0,e,by simp,by simp,by simp,fun j hj=>absurd hj ah⟩⟩
   ·obtain⟨r,hr,iv⟩:=ih ks (o+1) h2
    refine⟨r,by simp[IT,hr],?_⟩
    rcases iv with⟨rfl,hn⟩|⟨i,e',rfl,hi,hk,hj⟩
    ·exact .inl ⟨rfl,by simp[IT,hn]⟩
    ·refine .inr ⟨i+1,e',by congr 2;omega,by simpa using hi,by simpa using hk,fun j qL=>?_⟩
     cases j with
     | zero=>simp;exact fun h=>IT h.symm
     | succ j=>simpa using hj j ah
theorem ru{P:Program}{kt:TypeId}{kind:TypeDesc}{κ:Type}[DecidableEq κ]{kv:κ→Value}(hu:P.underlying kt=some kind)(hs:∀a b,Instr.sameNow kind (kv a) (kv b)=some (decide (a=b)))(hk:(match kind with | .interface _=>false | .array _ _=>false | .struct _=>false|_=>true)=true)(inj:∀a b,kv a=kv b→a=b)(bits:∀k,Instr.sameBits 10000 (kv k) (kv k)=true):mh P kt kv where
 inj:=inj
 check:=fun e k w=>by
  unfold Instr.checkKey
  simp only[Sem.run_bind,underlying,run_program,Result.andThen_ok,hu,Sem.run_pure]
  cases kind <;> simp_all
 find:=fun k l ks w h=>by
  obtain⟨r,hr,iv⟩:=findNow_spec hs k l ks 0 h
  refine⟨r,?_,?_⟩
  ·simp only[Instr.findKey,Sem.run_bind,underlying,run_program,Result.andThen_ok,hu,Sem.run_pure,hr]
  ·rcases iv with h|⟨i,e,hr,hi,hk,hj⟩
   ·exact .inl h
   ·exact .inr ⟨i,e,by rw[hr];simp,hi,hk,hj⟩
 bits:=bits
theorem abr(a b:ByteArray):(a == b)=decide (a=b):=by
 rw[Bool.eq_iff_iff]
 simp only[decide_eq_true_eq]
 constructor
 ·intro h
  have h1:(a.data == b.data)=true:=h
  cases a;cases b;simp at h1;rw[h1]
 ·rintro rfl
  show(a.data == a.data)=true
  simp
theorem gV{α β:Type}(g:α→β)(l:List α)(i:Nat):(l.eraseIdx i).map g=(l.map g).eraseIdx i:=by
 induction l generalizing i with
 | nil=>rfl
 | cons x l ih=>cases i <;> simp[ih]
theorem NC{P:Program}{kt:TypeId}(hu:P.underlying kt=some .string):mh P kt Value.string :=
 ru hu (fun a b=>by simp only[Instr.sameNow,abr]) rfl (fun a b h=>by cases h;rfl) (fun k=>by simp[Instr.sameBits,abr])
theorem BN{P:Program}{kt:TypeId}{j:IntKind}(hu:P.underlying kt=some (.int j)):mh P kt (Value.int j) :=
 ru hu (fun a b=>by simp only[Instr.sameNow,if_true,abq]) rfl (fun a b h=>by cases h;rfl) (fun k=>by simp[Instr.sameBits])
section
variable{κ:Type}[DecidableEq κ]
def eh(es:List (κ × Value))(k:κ):Option Value:=(es.find? fun x=>decide (x.1=k)).map (·.2)
def nk(es:List (κ × Value))(k:κ)(v:Value):List (κ × Value):=if k∈es.map (·.1)then es.map (fun x=>if x.1=k then(k,v)else x)else es++[(k,v)]
def rj(es:List (κ × Value))(k:κ):List (κ × Value):=es.filter fun x => !decide (x.1=k)
theorem yU{es:List (κ × Value)}{k:κ}:eh es k=none↔k ∉ es.map (·.1):=by
 unfold eh
 simp only[Option.map_eq_none_iff,List.find?_eq_none,decide_eq_true_eq,List.mem_map,not_exists,not_and]
theorem A5{es:List (κ × Value)}{k:κ}{i:Nat}{v:Value}(hi:es[i]?=some (k,v))(hj:∀j,j<i→(es.map (·.1))[j]? ≠ some k):eh es k=some v:=by
 induction es generalizing i with
 | nil=>simp at hi
 | cons x es ih =>
  cases i with
  | zero=>simp at hi;subst hi;simp[eh]
  | succ i =>
   simp at hi
   have h0:=hj 0 ah
   simp at h0
   have:=ih hi (fun j qL=>by have:=hj (j+1) ah;simpa using this)
   unfold eh at this ⊢
   simp[h0,this]
def pK(kv:κ→Value)(o:Obj)(es:List (κ × Value)):Prop :=
 ∃entries clock,o = .map entries clock∧entries.toList.map (fun e=>(e.key,e.val))=es.map (fun x=>(kv x.1,x.2))∧(es.map (·.1)).Nodup∧(∀e∈entries.toList,e.born<clock)∧(entries.toList.map (·.born)).Nodup
def aM(kv:κ→Value)(b:Nat)(es:List (κ × Value)):HP:=fun h=>∃o,pK kv o es∧ag b o h
theorem Sat.oN{G:cC}{w:World}{H:List HP}{kv:κ→Value}{b:Nat}{es:List (κ × Value)}(hs:Sat G w H){i:Nat}(hi:cq H i=some (aM kv b es)):∃o,pK kv o es∧w.heap[b]?=some o:=by
 obtain⟨h,hh,o,ho,hp⟩:=hs.kQ hi
 exact⟨o,ho,hh b o (by rw[hp b];simp)⟩
theorem pL(kv:κ→Value)(b:Nat):∀h,ag b (.map #[] 0) h→aM kv b [] h:=fun h hp=>⟨_,⟨#[],0,rfl,rfl,by simp,by simp,by simp⟩,hp⟩
theorem GF{kv:κ→Value}{b:Nat}{es:List (κ × Value)}{h:Hp}(hm:aM kv b es h):(es.map (·.1)).Nodup:=by
 obtain⟨o,⟨_,_,_,_,hn,_⟩,_⟩:=hm;exact hn
theorem Sat.BD{G:cC}{w:World}{H H':List HP}{kv:κ→Value}{b:Nat}{es es':List (κ × Value)}{o':Obj}{i:Nat}(hs:Sat G w H)(hi:cq H i=some (aM kv b es))(hm:pK kv o' es')(hp:lh i (aM kv b es') H [] = .mk H') :
  Sat G { w with heap:=w.heap.setIfInBounds b o' } H':=by
 have zF:=hs.cy (ao.perm (cZ (by rw[← dA];exact hi)))
 obtain⟨hT,hO,Q',hh,er,h1,h2,⟨o,ho,wm⟩,hB,hd,hj⟩:=zF
 have qZ:Sat G w (ag b o::H.eraseIdx i):=⟨hT,hO,Q',hh,er,h1,h2,wm,hB,hd,hj⟩
 have h3:=qZ.Bu (o':=o')
 have h4:=oz i _ _ H [] H' hp hi
 refine(h3.cy ?_).cy (ao.perm (by simpa using h4.symm))
 exact ao.fold (B:=[_]) fun h hs=>⟨h,sub.refl h,o',hm,eN hs⟩
end
section
variable{P:Program}{U:Tr}[hU:fT P U]{f:FuncId}{n:Nat}{R:Ending→World→Prop}{G:cC}{k:List Item}{L:fC}{H H':List HP}{S:World→Prop}{all:Array Oper}{rest:Pl}{ty:TypeId}{pos:String}{af:Array Edge}{gd:Option (Nat × Bool)}{m:Bool}{d:Tmp}
variable{κ:Type}[DecidableEq κ]{kv:κ→Value}
theorem run_getObj_map{w:World}{b:Nat}{es:Array MapEntry}{c:Nat}(h:w.heap[b]?=some (.map es c)):(getObj b).run P w = .ok (.map es c) w:=by
 simp[getObj,Sem.run,h]
theorem ou{t kt et:TypeId}{bM te:Ty}{z:Value}{b:Nat}{es:List (κ × Value)}{key:κ}{o:Obj}{w:World}(c:Bool)(zH:mh P kt kv)(ht:U.get t=some bM)(hu:bM.gC = .map kt et)(he:U.get et=some te)(hz:te.info.zero=some z)(hm:pK kv o es)(hb:w.heap[b]?=some o) :
  (Instr.lookup t (.map (some b)) (kv key) c).run P w = .ok (if c then .tuple #[(eh es key).getD z,.bool (eh es key).isSome]else(eh es key).getD z) w:=by
 obtain⟨entries,clock,rfl,rh,j4,kP,G4⟩:=hm
 have WW:entries.toList.map (·.key)=(es.map (·.1)).map kv:=by
  have:=congrArg (List.map (·.1)) rh
  simpa[Function.comp_def]using this
 obtain⟨r,hr,iv⟩:=zH.find key entries.toList (es.map (·.1)) w WW
 unfold Instr.lookup
 simp only[Sem.run_bind,run_underlying ht,Result.andThen_ok,hu,run_getObj_map hb,Sem.run_pure,zH.check,hr]
 rcases iv with⟨rfl,hn⟩|⟨i,e,rfl,hi,hk,hj⟩
 ·have:=yU.2 hn
  simp only[Sem.run_bind,dN he hz,Result.andThen_ok,Sem.run_pure,this]
  cases c <;> rfl
 ·have hv:es[i]?=some (key,e.val):=by
   have h1:=congrArg (·[i]?) rh
   simp only[List.getElem?_map,hi,Option.map_some]at h1
   simp only[List.getElem?_map]at hk
   cases hx:es[i]? with
   | none=>rw[hx]at hk;cases hk
   | some x =>
    rw[hx]at h1 hk
    simp only[Option.map_some,Option.some.injEq,Prod.mk.injEq]at h1 hk
    rw[← hk,h1.2]
  have:=A5 hv hj
  simp only[Sem.run_pure,Result.andThen_ok,this]
  cases c <;> rfl
theorem Pn{t kt et:TypeId}{bM te:Ty}{z:Value}{x y:Operand}{b:Nat}{es:List (κ × Value)}{key:κ}{pP:Value}(i:Nat)(hd:Nat.blt d n=true)(zH:mh P kt kv)(hx:ev L x=some (.map (some b)))(hy:ev L y=some pP)(N':pP=kv key)(ht:U.get t=some bM)(hu:bM.gC = .map kt et)(he:U.get et=some te)(hz:te.info.zero=some z)(hi:cq H i=some (aM kv b es))(h:J P f n R G S all rest k ((d,(eh es key).getD z)::L) H):J P f n R G S all (.cons false true ⟨some d,.lookup t x y false,ty,pos,af,gd⟩ rest) k L H :=
 ku hd (fun a w ha hw=>by
  obtain⟨o,hm,hb⟩:=hw.oN hi
  subst N'
  simp[execOp,ha.ev hx,ha.ev hy,ou (P:=P) (key:=key) false zH ht hu he hz hm hb]) h
theorem qs{t kt et:TypeId}{bM te:Ty}{z:Value}{x y:Operand}{b:Nat}{es:List (κ × Value)}{key:κ}{pP:Value}(hd:Nat.blt d n=true)(zH:mh P kt kv)(hx:ev L x=some (.map (some b)))(hy:ev L y=some pP)(N':pP=kv key)(ht:U.get t=some bM)(hu:bM.gC = .map kt et)(he:U.get et=some te)(hz:te.info.zero=some z)(hi:∀w,Sat G w H→∃o,pK kv o es∧w.heap[b]?=some o)(h:J P f n R G S all rest k ((d,.tuple #[(eh es key).getD z,.bool (eh es key).isSome])::L) H):J P f n R G S all (.cons false true ⟨some d,.lookup t x y true,ty,pos,af,gd⟩ rest) k L H :=
 ku hd (fun a w ha hw=>by
  obtain⟨o,hm,hb⟩:=hi w hw
  subst N'
  simp[execOp,ha.ev hx,ha.ev hy,ou (P:=P) (key:=key) true zH ht hu he hz hm hb]) h
theorem Bc{t kt et:TypeId}{bM te:Ty}{z:Value}{x y:Operand}{b:Nat}{es:List (κ × Value)}{key:κ}{pP:Value}(hd:Nat.blt d n=true)(zH:mh P kt kv)(hx:ev L x=some (.map (some b)))(hy:ev L y=some pP)(N':pP=kv key)(ht:U.get t=some bM)(hu:bM.gC = .map kt et)(he:U.get et=some te)(hz:te.info.zero=some z)(hi:∀w,S w→∃o,pK kv o es∧w.heap[b]?=some o)(h:J P f n R G S all rest k ((d,(eh es key).getD z)::L) H):J P f n R G S all (.cons true true ⟨some d,.lookup t x y false,ty,pos,af,gd⟩ rest) k L H :=
 lr hd (fun a w ha hw=>by
  obtain⟨o,hm,hb⟩:=hi w hw
  subst N'
  simp[execOp,ha.ev hx,ha.ev hy,ou (P:=P) (key:=key) false zH ht hu he hz hm hb]) h
theorem qq{t kt et:TypeId}{bM te:Ty}{z:Value}{x y:Operand}{b:Nat}{es:List (κ × Value)}{key:κ}{pP:Value}(hd:Nat.blt d n=true)(zH:mh P kt kv)(hx:ev L x=some (.map (some b)))(hy:ev L y=some pP)(N':pP=kv key)(ht:U.get t=some bM)(hu:bM.gC = .map kt et)(he:U.get et=some te)(hz:te.info.zero=some z)(hi:∀w,S w→∃o,pK kv o es∧w.heap[b]?=some o)(h:J P f n R G S all rest k ((d,.tuple #[(eh es key).getD z,.bool (eh es key).isSome])::L) H):J P f n R G S all (.cons true true ⟨some d,.lookup t x y true,ty,pos,af,gd⟩ rest) k L H :=
 lr hd (fun a w ha hw=>by
  obtain⟨o,hm,hb⟩:=hi w hw
  subst N'
  simp[execOp,ha.ev hx,ha.ev hy,ou (P:=P) (key:=key) true zH ht hu he hz hm hb]) h
theorem Np{entries:Array MapEntry}{clock:Nat}{es:List (κ × Value)}{key:κ}{v:Value}{i:Nat}{e:MapEntry}(hm:pK kv (.map entries clock) es)(hi:entries.toList[i]?=some e)(hk:(es.map (·.1))[i]?=some key) :
  pK kv (.map (entries.modify i fun e=>{ e with key:=kv key,val:=v }) clock) (nk es key v):=by
 obtain⟨tH,B9,heq,rh,j4,kP,G4⟩:=hm
 cases heq
 have fg:key∈es.map (·.1):=List.mem_of_getElem? hk
 have WR:(entries.modify i fun e=>{ e with key:=kv key,val:=v }).toList=entries.toList.modify i (fun e=>{ e with key:=kv key,val:=v }):=by simp
 refine⟨_,clock,rfl,?_,?_,?_,?_⟩
 ·rw[WR]
  apply List.ext_getElem?
  intro j
  have hj:=congrArg (·[j]?) rh
  simp only[List.getElem?_map]at hj
  simp only[nk,fg,if_true,List.getElem?_map,List.getElem?_modify]
  cases hx:es[j]? with
  | none =>
   rw[hx]at hj
   simp at hj
   simp[hj]
  | some x =>
   rw[hx]at hj
   simp only[Option.map_some]at hj
   cases hy:entries.toList[j]? with
   | none=>rw[hy]at hj;cases hj
   | some y =>
    rw[hy]at hj
    simp only[Option.map_some,Option.some.injEq,Prod.mk.injEq]at hj
    by_cases AL:i=j
    ·subst AL
     simp only[List.getElem?_map,hx,Option.map_some,Option.some.injEq]at hk
     simp[hk]
    ·have bT:x.1≠key:=fun hxk=>by
      have h1:(es.map (·.1))[j]?=some key:=by simp[hx,hxk]
      exact AL ((List.getElem?_inj (by
       rcases Nat.lt_or_ge i (es.map (·.1)).length with h|h
       ·exact h
       ·rw[List.getElem?_eq_none h]at hk;cases hk) j4).1 (hk.trans h1.symm))
     simp[AL,bT,hj.1,hj.2]
 ·have:(nk es key v).map (·.1)=es.map (·.1):=by
   simp only[nk,fg,if_true,List.map_map]
   apply List.map_congr_left
   intro x _
   simp only[Function.comp]
   split
   ·rename_i h;exact h.symm
   ·rfl
  rw[this];exact j4
 ·intro e' L7
  rw[WR]at L7
  obtain⟨j,hj⟩:=List.getElem?_of_mem L7
  rw[List.getElem?_modify]at hj
  cases hy:entries.toList[j]? with
  | none=>rw[hy]at hj;cases hj
  | some y =>
   rw[hy]at hj
   have:=kP y (List.mem_of_getElem? hy)
   simp at hj
   split at hj <;> (subst hj;exact this)
 ·rw[WR]
  have:(entries.toList.modify i (fun e=>{ e with key:=kv key,val:=v })).map (·.born)=entries.toList.map (·.born):=by
   apply List.ext_getElem?
   intro j
   simp only[List.getElem?_map,List.getElem?_modify]
   cases hy:entries.toList[j]? with
   | none=>rfl
   | some y=>simp only[Option.map_some];split <;> rfl
  rw[this];exact G4
theorem Ki{entries:Array MapEntry}{clock:Nat}{es:List (κ × Value)}{key:κ}{v:Value}(hm:pK kv (.map entries clock) es)(hn:key ∉ es.map (·.1)) :
  pK kv (.map (entries.push { key:=kv key,val:=v,born:=clock }) (clock+1)) (nk es key v):=by
 obtain⟨tH,B9,heq,rh,j4,kP,G4⟩:=hm
 cases heq
 refine⟨_,clock+1,rfl,?_,?_,?_,?_⟩
 ·simp[nk,hn,rh]
 ·simp only[nk,hn,if_false,List.map_append,List.map_cons,List.map_nil]
  rw[List.nodup_append]
  exact⟨j4,by simp,fun a ha b hb=>by simp at hb;subst hb;rintro rfl;exact hn ha⟩
 ·intro e he
  simp only[Array.toList_push,List.mem_append,List.mem_singleton]at he
  rcases he with he|rfl
  ·have:=kP e he;omega
  ·simp
 ·simp only[Array.toList_push,List.map_append,List.map_cons,List.map_nil]
  rw[List.nodup_append]
  refine⟨G4,by simp,fun a ha b hb=>?_⟩
  simp at hb
  subst hb
  obtain⟨e,he,rfl⟩:=List.mem_map.1 ha
  have:=kP e he
  omega
theorem Gd{t kt et:TypeId}{bM:Ty}{b:Nat}{es:List (κ × Value)}{key:κ}{v:Value}{w:World}{i:Nat}(zH:mh P kt kv)(ht:U.get t=some bM)(hu:bM.gC = .map kt et)(hw:Sat G w H)(hi:cq H i=some (aM kv b es))(hp:lh i (aM kv b (nk es key v)) H [] = .mk H') :
  ∃w',(Instr.mapUpdate t (.map (some b)) (kv key) v).run P w = .ok () w'∧Sat G w' H':=by
 obtain⟨o,hm,hb⟩:=hw.oN hi
 have zu:=hm
 obtain⟨entries,clock,rfl,rh,j4,kP,G4⟩:=hm
 have WW:entries.toList.map (·.key)=(es.map (·.1)).map kv:=by
  have:=congrArg (List.map (·.1)) rh
  simpa[Function.comp_def]using this
 obtain⟨r,hr,iv⟩:=zH.find key entries.toList (es.map (·.1)) w WW
 have gY:∀o',(setObj b o').run P w = .ok () { w with heap:=w.heap.setIfInBounds b o' }:=fun o'=>by simp[setObj,Sem.run,hb]
 rcases iv with⟨rfl,hn⟩|⟨j,e,rfl,hj,hk,cW⟩
 ·refine⟨_,?_,hw.BD hi (Ki (v:=v) zu hn) hp⟩
  unfold Instr.mapUpdate
  simp only[Sem.run_bind,run_underlying ht,Result.andThen_ok,hu,run_getObj_map hb,zH.check,hr,gY]
 ·refine⟨_,?_,hw.BD hi (Np (v:=v) zu hj hk) hp⟩
  have hek:e.key=kv key:=by
   have h1:=congrArg (·[j]?) WW
   simp only[List.getElem?_map,hj,Option.map_some]at h1 hk
   rw[hk]at h1
   simpa using h1
  have qL:entries[j]?=some e:=by simpa using hj
  unfold Instr.mapUpdate
  simp only[Sem.run_bind,run_underlying ht,Result.andThen_ok,hu,run_getObj_map hb,zH.check,hr,qL,Option.map_some,Option.getD_some,hek,Instr.keyThatStays,zH.bits,if_true,Sem.run_pure,gY]
theorem Fe{t kt et:TypeId}{bM:Ty}{x y v0:Operand}{b:Nat}{es:List (κ × Value)}{key:κ}{pP v:Value}(i:Nat)(zH:mh P kt kv)(hS:∀w,Sat G w H'→Sx rest S w)(hx:ev L x=some (.map (some b)))(hy:ev L y=some pP)(N':pP=kv key)(hv:ev L v0=some v)(ht:U.get t=some bM)(hu:bM.gC = .map kt et)(hi:cq H i=some (aM kv b es))(hp:lh i (aM kv b (nk es key v)) H [] = .mk H')(h:J P f n R G S all rest k L H'):J P f n R G S all (.cons false true ⟨none,.mapUpdate t x y v0,ty,pos,af,gd⟩ rest) k L H:=by
 refine Pw (fun H1=>H1=H') (fun a w ha hw=>?_) (fun H1 w e hw=>hS w (e ▸ hw)) (fun H1 e=>e ▸ h)
 subst N'
 obtain⟨w',hr,hs⟩:=Gd (P:=P) zH ht hu hw hi hp
 exact⟨w',H',by simp[execOp,ha.ev hx,ha.ev hy,ha.ev hv,hr],rfl,hs⟩
theorem B3{es:List (κ × Value)}{key:κ}:∀ {i:Nat},(es.map (·.1)).Nodup→(es.map (·.1))[i]?=some key→rj es key=es.eraseIdx i:=by
 induction es with
 | nil=>intro i _ h;simp at h
 | cons x es ih =>
  intro i j4 hk
  simp only[List.map_cons,List.nodup_cons]at j4
  cases i with
  | zero =>
   simp at hk
   subst hk
   simp only[rj,decide_true,Bool.not_true,List.filter_cons,Bool.false_eq_true,if_false,List.eraseIdx_cons_zero]
   apply List.filter_eq_self.2
   intro y hy
   simp only[Bool.not_eq_true',decide_eq_false_iff_not]
   intro e
   exact j4.1 (List.mem_map.2 ⟨y,hy,e⟩)
  | succ i =>
   simp at hk
   have bT:x.1≠key:=fun e=>j4.1 (by rw[e];exact List.mem_of_getElem? (by simpa using hk))
   have:=ih j4.2 (i:=i) (by simpa using hk)
   simp only[rj]at this ⊢
   simp[bT,this]
theorem Ll{es:List (κ × Value)}{key:κ}(h:key ∉ es.map (·.1)):rj es key=es:=by
 apply List.filter_eq_self.2
 intro y hy
 simp only[Bool.not_eq_true',decide_eq_false_iff_not]
 intro e
 exact h (List.mem_map.2 ⟨y,hy,e⟩)
theorem Nq{entries:Array MapEntry}{clock:Nat}{es:List (κ × Value)}{key:κ}{i:Nat}{e:MapEntry}(hm:pK kv (.map entries clock) es)(hi:entries.toList[i]?=some e)(hk:(es.map (·.1))[i]?=some key) :
  pK kv (.map (entries.eraseIdxIfInBounds i) clock) (rj es key):=by
 obtain⟨tH,B9,heq,rh,j4,kP,G4⟩:=hm
 cases heq
 have pj:(entries.eraseIdxIfInBounds i).toList=entries.toList.eraseIdx i:=by simp
 rw[B3 j4 hk]
 refine⟨_,clock,rfl,?_,?_,?_,?_⟩
 ·rw[pj,gV,gV,rh]
 ·rw[gV];exact j4.eraseIdx _
 ·intro e' L7;rw[pj]at L7;exact kP e' (List.mem_of_mem_eraseIdx L7)
 ·rw[pj,gV];exact G4.eraseIdx _
theorem Pq{t kt et:TypeId}{bM:Ty}{x y:Operand}{t2:TypeId}{b:Nat}{es:List (κ × Value)}{key:κ}{pP:Value}(i:Nat)(zH:mh P kt kv)(hS:∀w,Sat G w H'→Sx rest S w)(hx:ev L x=some (.map (some b)))(hy:ev L y=some pP)(N':pP=kv key)(ht:U.get t=some bM)(hu:bM.gC = .map kt et)(hi:cq H i=some (aM kv b es))(hp:lh i (aM kv b (rj es key)) H [] = .mk H')(h:J P f n R G S all rest k L H'):J P f n R G S all (.cons false true ⟨none,.call { callee := .builtin .delete,args := #[x,y],argTypes := #[t,t2] },ty,pos,af,gd⟩ rest) k L H:=by
 intro a w ha hw _
 subst N'
 obtain⟨o,hm,hb⟩:=hw.oN hi
 have zu:=hm
 obtain⟨entries,clock,rfl,rh,j4,kP,G4⟩:=hm
 have WW:entries.toList.map (·.key)=(es.map (·.1)).map kv:=by
  have:=congrArg (List.map (·.1)) rh
  simpa[Function.comp_def]using this
 obtain⟨r,hr,iv⟩:=zH.find key entries.toList (es.map (·.1)) w WW
 have gY:∀o',(setObj b o').run P w = .ok () { w with heap:=w.heap.setIfInBounds b o' }:=fun o'=>by simp[setObj,Sem.run,hb]
 refine .inl ⟨.inl rfl,.inr ⟨rfl,?_⟩⟩
 rcases iv with⟨rfl,hn⟩|⟨j,e,rfl,hj,hk,cW⟩
 ·have hs:=hw.BD hi (o' := .map entries clock) (es':=rj es key) (by rw[Ll hn];exact zu) hp
  have:(execOp a.eval ⟨none,.call { callee := .builtin .delete,args := #[x,y],argTypes := #[t,t2] },ty,pos,af,gd⟩).run P w = .ok (.value (.tuple #[])) { w with heap:=w.heap.setIfInBounds b (.map entries clock) }:=by
   simp only[execOp,resolve,invoke,builtin,Sem.run_bind,Sem.run_pure,Result.andThen_ok,List.map_toArray,List.map_cons,List.map_nil,ha.ev hx,ha.ev hy,Builtin.delete_,List.getElem?_toArray,List.getElem?_cons_zero,List.getElem?_cons_succ,
    run_underlying ht,hu,run_getObj_map hb,zH.check,hr,gY]
  exact ib this ⟨hS _ hs,h a _ ha hs (hS _ hs)⟩
 ·have hs:=hw.BD hi (Nq zu hj hk) hp
  have:(execOp a.eval ⟨none,.call { callee := .builtin .delete,args := #[x,y],argTypes := #[t,t2] },ty,pos,af,gd⟩).run P w = .ok (.value (.tuple #[])) { w with heap:=w.heap.setIfInBounds b (.map (entries.eraseIdxIfInBounds j) clock) }:=by
   simp only[execOp,resolve,invoke,builtin,Sem.run_bind,Sem.run_pure,Result.andThen_ok,List.map_toArray,List.map_cons,List.map_nil,ha.ev hx,ha.ev hy,Builtin.delete_,List.getElem?_toArray,List.getElem?_cons_zero,List.getElem?_cons_succ,
    run_underlying ht,hu,run_getObj_map hb,zH.check,hr,gY]
  exact ib this ⟨hS _ hs,h a _ ha hs (hS _ hs)⟩
theorem Ge{t kt et:TypeId}{bM:Ty}{b:Nat}{es:List (κ × Value)}{o:Obj}{w:World}{rty:TypeId}(ht:U.get t=some bM)(hu:bM.gC = .map kt et)(hm:pK kv o es)(hb:w.heap[b]?=some o) :
  (Builtin.len_ #[t] rty #[.map (some b)]).run P w = .ok (.int .i64 es.length) w:=by
 obtain⟨entries,clock,rfl,rh,j4,kP,G4⟩:=hm
 have hl:entries.size=es.length:=by have:=congrArg List.length rh;simpa using this
 simp[Builtin.len_,run_underlying ht,hu,run_getObj_map hb,goInt,hl]
theorem LO{t kt et:TypeId}{bM:Ty}{x:Operand}{b:Nat}{es:List (κ × Value)}(hd:Nat.blt d n=true)(hx:ev L x=some (.map (some b)))(ht:U.get t=some bM)(hu:bM.gC = .map kt et)(hi:∀w,Sat G w H→∃o,pK kv o es∧w.heap[b]?=some o)(h:J P f n R G S all rest k ((d,.int .i64 es.length)::L) H):J P f n R G S all (.cons false true ⟨some d,.call { callee := .builtin .len,args := #[x],argTypes := #[t] },ty,pos,af,gd⟩ rest) k L H :=
 ku hd (fun a w ha hw=>by
  obtain⟨o,hm,hb⟩:=hi w hw
  simp[execOp,resolve,invoke,builtin,ha.ev hx,Ge (P:=P) ht hu hm hb]) h
def bN(kv:κ→Value)(b it:Nat)(es:List (κ × Value))(done:List κ):HP:=fun h =>
 ∃entries clock seen,pK kv (.map entries clock) es∧(∀(i:Nat) (e:MapEntry) (x:κ × Value),entries.toList[i]?=some e→es[i]?=some x→(seen.contains e.born=true↔x.1∈done)) ∧
  (∀key,done.head?=some key→∃e∈entries.toList,e.key=kv key∧seen.back?=some e.born) ∧
  star (ag b (.map entries clock)) (ag it (.mapIter (some b) clock seen clock)) h
theorem qF{b it:Nat}{es:List (κ × Value)}{done:List κ}:∀h,bN kv b it es done h→∃h',sub h' h∧aM kv b es h':=by
 rintro h⟨entries,clock,seen,hm,_,_,hs⟩
 obtain⟨h',s,hp⟩:=j9 hs
 exact⟨h',s,_,hm,hp⟩
theorem wG{t kt et:TypeId}{bM:Ty}{x:Operand}{b:Nat}{es:List (κ × Value)}(i:Nat)(hd:Nat.blt d n=true)(hx:ev L x=some (.map (some b)))(ht:U.get t=some bM)(hu:bM.gC = .map kt et)(hi:cq H i=some (aM kv b es)){Hf:Nat→List HP}(hp:∀it,lh i (bN kv b it es []) H [] = .mk (Hf it))(hS:∀it w,Sat G w (Hf it)→Sx rest S w)(h:∀it,J P f n R G S all rest k ((d,.pointer (some ⟨it,0,none⟩))::L) (Hf it)):J P f n R G S all (.cons false true ⟨some d,.range t x,ty,pos,af,gd⟩ rest) k L H:=by
 refine n6 hd (fun u H1=>∃it,u = .pointer (some ⟨it,0,none⟩)∧H1=Hf it) (fun a w ha hw=>?_) ?_ ?_
 ·obtain⟨o,hm,hb⟩:=hw.oN hi
  have zF:=hw.cy (ao.perm (cZ (by rw[← dA];exact hi)))
  obtain⟨hT,hO,Q',hh,er,h1,h2,⟨o',ho',wm⟩,hB,Xa,hj⟩:=zF
  have hoo:o'=o:=by
   have:w.heap[b]?=some o':=er b o' (by rw[hj b,wm b];simp)
   rw[hb]at this;cases this;rfl
  subst hoo
  have qZ:Sat G w (ag b o'::H.eraseIdx i):=⟨hT,hO,Q',hh,er,h1,h2,wm,hB,Xa,hj⟩
  obtain⟨entries,clock,rfl,fG⟩:=hm
  refine⟨_,{ w with heap:=w.heap.push (.mapIter (some b) clock #[] clock) },Hf w.heap.size,?_,⟨w.heap.size,rfl,rfl⟩,?_⟩
  ·simp only[execOp,ha.ev hx,Instr.range,Sem.run_bind,run_underlying ht,Result.andThen_ok,hu,run_getObj_map hb,Sem.run_pure,run_newObj]
  ·have h3:=qZ.alloc (.mapIter (some b) clock #[] clock)
   have h4:=oz i _ _ H [] (Hf w.heap.size) (hp _) hi
   refine(h3.cy ?_).cy (ao.perm (by simpa using h4.symm))
   refine(ao.perm (List.Perm.swap _ _ _)).trans ?_
   refine ao.fold (B:=[_,_]) fun h hs=>⟨h,sub.refl h,entries,clock,#[],⟨entries,clock,rfl,fG⟩,fun i e x _ _=>by simp,by simp,?_⟩
   exact ff (fun _ h=>h) (fun _ h=>eN h) hs
 ·rintro u H1 w⟨it,rfl,rfl⟩ hw;exact hS it w hw
 ·rintro u H1⟨it,rfl,rfl⟩;exact h it
theorem wK{x:Operand}{b it:Nat}{es:List (κ × Value)}{done:List κ}{key:κ}{v:Value}(i:Nat)(hd:Nat.blt d n=true)(aaN:∀a b,kv a=kv b→a=b)(hx:ev L x=some (.pointer (some ⟨it,0,none⟩)))(hi:cq H i=some (bN kv b it es (key::done)))(hv:(key,v)∈es)(h:J P f n R G S all rest k ((d,.tuple #[kv key,v])::L) H):J P f n R G S all (.cons false true ⟨some d,.entry x,ty,pos,af,gd⟩ rest) k L H :=
 ku hd (fun a w ha hw=>by
  have zF:=hw.cy (ao.perm (cZ (by rw[← dA];exact hi)))
  obtain⟨hT,hO,Q',hh,er,h1,h2,hA,hB,Xa,hj⟩:=zF
  obtain⟨entries,clock,seen,hm,IJ,kO,h3,h4,nK,KI,Q4,AK⟩:=hA
  have hb:w.heap[b]?=some (.map entries clock):=er b _ (by rw[hj b,AK b,nK b];simp)
  have KJ:w.heap[it]?=some (.mapIter (some b) clock seen clock):=by
   refine er it _ ?_
   rw[hj it,AK it,KI it]
   rcases Q4 it with e|e
   ·rw[e];simp
   ·rw[KI it]at e;simp at e
  obtain⟨tH,B9,heq,rh,j4,kP,G4⟩:=hm
  cases heq
  have hgm:=run_getObj_map (P:=P) hb
  have Sh:(getObj it).run P w = .ok (.mapIter (some b) clock seen clock) w:=by simp[getObj,Sem.run,KJ]
  obtain⟨e,he,hek,jO⟩:=kO key rfl
  -- the cell's value
  obtain⟨j,wo⟩:=List.getElem?_of_mem he
  have hev:e.val=v:=by
   have h6:=congrArg (·[j]?) rh
   simp only[List.getElem?_map,wo,Option.map_some]at h6
   cases sg:es[j]? with
   | none=>rw[sg]at h6;cases h6
   | some x2 =>
    rw[sg]at h6
    simp only[Option.map_some,Option.some.injEq,Prod.mk.injEq]at h6
    have Ym:x2.1=key:=aaN _ _ (h6.1.symm.trans hek)
    obtain⟨j2,BT⟩:=List.getElem?_of_mem hv
    have Ri:(es.map (·.1))[j]?=(es.map (·.1))[j2]? := by simp only[List.getElem?_map,sg,BT,Option.map_some,Ym]
    have Xx:j=j2:=(List.getElem?_inj (by
     have:j<es.length:=by
      rcases Nat.lt_or_ge j es.length with h|h
      ·exact h
      ·rw[List.getElem?_eq_none h]at sg;cases sg
     rw[List.length_map];exact this) j4).1 Ri
    subst Xx
    rw[sg]at BT
    cases BT
    exact h6.2
  have yk:entries.find? (fun x=>x.born == e.born)=some e:=by
   rw[← Array.find?_toList]
   cases hf:entries.toList.find? (fun x=>x.born == e.born)with
   | none=>have:=List.find?_eq_none.1 hf e he;simp at this
   | some e2 =>
    have h1:=List.find?_some hf
    have h2:=List.mem_of_find?_eq_some hf
    simp only[beq_iff_eq]at h1
    obtain⟨j2,BT⟩:=List.getElem?_of_mem h2
    have Ri:(entries.toList.map (·.born))[j2]?=(entries.toList.map (·.born))[j]? := by simp only[List.getElem?_map,wo,BT,Option.map_some,h1]
    have Xx:j2=j:=(List.getElem?_inj (by
     have:j2<entries.toList.length:=by
      rcases Nat.lt_or_ge j2 entries.toList.length with h|h
      ·exact h
      ·rw[List.getElem?_eq_none h]at BT;cases BT
     rw[List.length_map];exact this) G4).1 Ri
    subst Xx
    rw[wo]at BT
    cases BT
    rfl
  simp only[execOp,ha.ev hx,Instr.entry,Sem.run_bind,Sh,hgm,Result.andThen_ok,jO,yk,Sem.run_pure,hek,hev,bne_self_eq_false,Bool.false_eq_true,if_false]) h
theorem Cu{x:Operand}{b it:Nat}{es:List (κ × Value)}{done:List κ}(i:Nat)(hd:Nat.blt d n=true)(aaN:∀a b,kv a=kv b→a=b)(hx:ev L x=some (.pointer (some ⟨it,0,none⟩)))(hi:cq H i=some (bN kv b it es done)){Hf:κ→List HP}(hp:∀key,lh i (bN kv b it es (key::done)) H [] = .mk (Hf key))(hS0:∀w,Sat G w H→Sx rest S w)(hS:∀key w,Sat G w (Hf key)→Sx rest S w)(hG:(∀y∈es,y.1∈done)→J P f n R G S all rest k ((d,.tuple #[.bool false])::L) H)(hgo:∀key v,(key,v)∈es→key ∉ done→J P f n R G S all rest k ((d,.tuple #[.bool true,kv key,v])::L) (Hf key)) :
  J P f n R G S all (.cons false true ⟨some d,.next x false,ty,pos,af,gd⟩ rest) k L H:=by
 intro a w ha hw _
 refine .inl ⟨.inl rfl,.inr ⟨rfl,?_⟩⟩
 have zF:=hw.cy (ao.perm (cZ (by rw[← dA];exact hi)))
 obtain⟨hT,hO,Q',hh,er,h1,h2,hA,hB,Xa,hj⟩:=zF
 obtain⟨entries,clock,seen,hm,IJ,_,h3,h4,nK,KI,Q4,AK⟩:=hA
 have hb:w.heap[b]?=some (.map entries clock):=er b _ (by rw[hj b,AK b,nK b];simp)
 have KJ:w.heap[it]?=some (.mapIter (some b) clock seen clock):=by
  refine er it _ ?_
  rw[hj it,AK it,KI it]
  rcases Q4 it with e|e
  ·rw[e];simp
  ·rw[KI it]at e;simp at e
 obtain⟨tH,B9,heq,rh,j4,kP,G4⟩:=hm
 cases heq
 have hgm:=run_getObj_map (P:=P) hb
 have Sh:(getObj it).run P w = .ok (.mapIter (some b) clock seen clock) w:=by simp[getObj,Sem.run,KJ]
 have eZ:(!seen.isEmpty && !entries.isEmpty && entries.all (·.born≥clock))=false:=by
  cases he:entries.isEmpty with
  | true=>simp
  | false =>
   have bT:entries.toList≠[]:=by simpa[Array.isEmpty_iff]using he
   obtain⟨e,l,pj⟩:=List.exists_cons_of_ne_nil bT
   have h5:=kP e (by rw[pj];simp)
   have:entries.all (fun x=>decide (x.born≥clock))=false:=by
    rw[← Array.all_toList,pj]
    simp
    intro h;omega
   rw[this];simp
 have hold:∀(l:Array MapEntry),(∀e∈l.toList,e∈entries.toList)→l.filter (·.born<clock)=l∧l.filter (·.born≥clock) = #[]:=by
  intro l hl
  constructor
  ·apply Array.filter_eq_self.2
   intro e he;simpa using kP e (hl e (by simpa using he))
  ·apply Array.filter_eq_empty_iff.2
   intro e he;have:=kP e (hl e (by simpa using he));simp;omega
 have Sd:=hold (entries.filter fun e => !seen.contains e.born) (fun e he=>by simp at he;simpa using he.1)
 -- the entry that comes, if one does
 have aay:∀e,e∈entries.toList→∃(j:Nat) (x:κ × Value),entries.toList[j]?=some e∧es[j]?=some x∧x∈es∧e.key=kv x.1∧e.val=x.2∧(seen.contains e.born=true↔x.1∈done):=by
  intro e he
  obtain⟨j,wo⟩:=List.getElem?_of_mem he
  have h6:=congrArg (·[j]?) rh
  simp only[List.getElem?_map,wo,Option.map_some]at h6
  cases sg:es[j]? with
  | none=>rw[sg]at h6;cases h6
  | some x2 =>
   rw[sg]at h6
   simp only[Option.map_some,Option.some.injEq,Prod.mk.injEq]at h6
   exact⟨j,x2,wo,sg,List.mem_of_getElem? sg,h6.1,h6.2,IJ j e x2 wo sg⟩
 have aag:∀x,x∈es→∃e,e∈entries.toList∧e.key=kv x.1∧(seen.contains e.born=true↔x.1∈done):=by
  intro x2 sg
  obtain⟨j,wo⟩:=List.getElem?_of_mem sg
  have h6:=congrArg (·[j]?) rh
  simp only[List.getElem?_map,wo,Option.map_some]at h6
  cases he:entries.toList[j]? with
  | none=>rw[he]at h6;cases h6
  | some e =>
   rw[he]at h6
   simp only[Option.map_some,Option.some.injEq,Prod.mk.injEq]at h6
   exact⟨e,List.mem_of_getElem? he,h6.1,IJ j e x2 he wo⟩
 have aam:(execOp a.eval ⟨some d,.next x false,ty,pos,af,gd⟩)=(do let v ← Instr.next (.pointer (some ⟨it,0,none⟩)) false ty;pure (.value v)):=by simp only[execOp,ha.ev hx]
 refine lI (fun c hc=>by cases hc) rfl ?_
 rw[aam]
 simp only[Sem.run_bind,Instr.next,Sh,Result.andThen_ok,hgm,eZ,Bool.false_eq_true,if_false,Sd.1,Sd.2,Array.append_empty]
 by_cases Ei:(entries.filter fun e => !seen.contains e.born).isEmpty=true
 ·have he:(entries.filter fun e => !seen.contains e.born) = #[]:=Array.isEmpty_iff.1 Ei
  have aaZ:∀y∈es,y.1∈done:=by
   intro y hy
   obtain⟨e,hem,_,Of⟩:=aag y hy
   apply Of.1
   cases hc:seen.contains e.born with
   | true=>rfl
   | false =>
    have:e∈(entries.filter fun e => !seen.contains e.born):=by simp only[Array.mem_filter];exact⟨by simpa using hem,by rw[hc];rfl⟩
    rw[he]at this;simp at this
  have:=hG aaZ
  simp only[he,Array.isEmpty_empty,if_true,Array.map_empty,Array.append_empty,Sem.run_bind,run_choose]
  simp only[Question.forced,List.size_toArray,List.length_singleton,Nat.le_refl,decide_true,if_true,Result.andThen_ok,List.getElem?_toArray,List.getElem?_cons_zero,Sem.run_pure]
  exact⟨hS0 w hw,this _ w (ha.put hd _) hw (hS0 w hw)⟩
 ·have Oh:(entries.filter fun e => !seen.contains e.born).isEmpty=false:=by simpa using Ei
  obtain⟨q,w1,hq,AF,Q5⟩:∃q w1,q<(entries.filter fun e => !seen.contains e.born).size∧(w1=w∨w1=w.drew) ∧
    (choose (.mapNext ((entries.filter fun e => !seen.contains e.born).map some).size)).run P w = .ok q w1:=by
   have kX:0<(entries.filter fun e => !seen.contains e.born).size:=by
    rcases Nat.eq_zero_or_pos (entries.filter fun e => !seen.contains e.born).size with h|h
    ·have:=Array.eq_empty_of_size_eq_zero h;rw[this]at Oh;simp at Oh
    ·exact h
   simp only[run_choose,Array.size_map]
   by_cases hf:(Question.mapNext (entries.filter fun e => !seen.contains e.born).size).forced=true
   ·exact⟨0,w,kX,.inl rfl,by rw[if_pos hf]⟩
   ·exact⟨_,w.drew,Nat.mod_lt _ kX,.inr rfl,by rw[if_neg hf];rfl⟩
  have Ed:((entries.filter fun e => !seen.contains e.born).map some)[q]?=some (some (entries.filter fun e => !seen.contains e.born)[q]):=by simp[hq]
  generalize hE:(entries.filter fun e => !seen.contains e.born)[q]=e at Ed
  have Sa:e∈(entries.filter fun e => !seen.contains e.born):=by rw[← hE];exact Array.getElem_mem hq
  simp only[Array.mem_filter]at Sa
  obtain⟨N7,N6⟩:=Sa
  obtain⟨i3,x2,hi3,hx3,sg,yf,uh,aaO⟩:=aay e (by simpa using N7)
  have acI:x2.1 ∉ done:=fun h=>by have:=aaO.2 h;rw[this]at N6;cases N6
  have aaR:=hgo x2.1 x2.2 sg acI
  simp only[Oh,Bool.false_eq_true,if_false,Array.empty_append,Sem.run_bind]
  rw[Q5]
  have gY:(setObj it (.mapIter (some b) clock (seen.push e.born) clock)).run P w1 = .ok () { w1 with heap:=w1.heap.setIfInBounds it (.mapIter (some b) clock (seen.push e.born) clock) }:=by
   have:w1.heap[it]?=some (.mapIter (some b) clock seen clock):=by rcases AF with rfl|rfl <;> exact KJ
   simp[setObj,Sem.run,this]
  simp only[Result.andThen_ok,Ed,Sem.run_bind,gY,Sem.run_pure,yf,uh]
  have NS:Sat G { w1 with heap:=w1.heap.setIfInBounds it (.mapIter (some b) clock (seen.push e.born) clock) } (Hf x2.1):=by
   have ab2:Sat G w1 (ag it (.mapIter (some b) clock seen clock)::ag b (.map entries clock)::H.eraseIdx i):=by
    have h7:Sat G w (ag it (.mapIter (some b) clock seen clock)::ag b (.map entries clock)::H.eraseIdx i):=by
     refine⟨hT,hO,Q',hh,er,?_⟩
     have h8:star (star (ag b (.map entries clock)) (ag it (.mapIter (some b) clock seen clock))) (Sep (H.eraseIdx i)) hh:=⟨h1,h2,⟨h3,h4,nK,KI,Q4,AK⟩,hB,Xa,hj⟩
     exact Ah (kG h8)
    rcases AF with rfl|rfl
    ·exact h7
    ·exact h7.draw _
   have h9:=ab2.Bu (o' := .mapIter (some b) clock (seen.push e.born) clock)
   have h10:=oz i _ _ H [] (Hf x2.1) (hp _) hi
   refine(h9.cy ?_).cy (ao.perm (by simpa using h10.symm))
   refine(ao.perm (List.Perm.swap _ _ _)).trans ?_
   refine ao.fold (B:=[_,_]) fun h hs=>⟨h,sub.refl h,entries,clock,seen.push e.born,⟨entries,clock,rfl,rh,j4,kP,G4⟩,?_,?_,?_⟩
   ·intro i2 e2 y2 zM AE
    have N1:=IJ i2 e2 y2 zM AE
    simp only[Array.contains_eq_mem,Array.mem_push,decide_eq_true_eq,List.mem_cons]at N1 ⊢
    constructor
    ·rintro(h|h)
     ·exact .inr (N1.1 h)
     ·left
      -- the borns are one, so the entries are
      have Ri:(entries.toList.map (·.born))[i2]?=(entries.toList.map (·.born))[i3]? := by simp only[List.getElem?_map,zM,hi3,Option.map_some,h]
      have Xx:i2=i3:=(List.getElem?_inj (by
       have:i2<entries.toList.length:=by
        rcases Nat.lt_or_ge i2 entries.toList.length with h|h
        ·exact h
        ·rw[List.getElem?_eq_none h]at zM;cases zM
       rw[List.length_map];exact this) G4).1 Ri
      subst Xx
      rw[hx3]at AE;cases AE;rfl
    ·rintro(h|h)
     ·right
      have Ri:(es.map (·.1))[i2]?=(es.map (·.1))[i3]? := by simp only[List.getElem?_map,AE,hx3,Option.map_some,h]
      have Xx:i2=i3:=(List.getElem?_inj (by
       have:i2<es.length:=by
        rcases Nat.lt_or_ge i2 es.length with h|h
        ·exact h
        ·rw[List.getElem?_eq_none h]at AE;cases AE
       rw[List.length_map];exact this) j4).1 Ri
      subst Xx
      rw[hi3]at zM;cases zM;rfl
     ·exact .inl (N1.2 h)
   ·intro key aaH
    simp only[List.head?_cons,Option.some.injEq]at aaH
    subst aaH
    exact⟨e,by simpa using N7,yf,by simp⟩
   ·exact ff (fun _ h=>h) (fun _ h=>eN h) hs
  exact⟨hS _ _ NS,aaR _ _ (ha.put hd _) NS (hS _ _ NS)⟩
end
end Go.SL
namespace Go.SL
section
variable{P:Program}{U:Tr}[hU:fT P U]{f:FuncId}{n:Nat}{R:Ending→World→Prop}{G:cC}{k:List Item}{L:fC}{H H':List HP}{S:World→Prop}{all:Array Oper}{rest:Pl}{ty:TypeId}{pos:String}{af:Array Edge}{gd:Option (Nat × Bool)}{m:Bool}{d:Tmp}
theorem xA{g:FuncId}{fn:Func}{e:Array Value→Sem Value}{vs:Array Value}{w:World}(hf:P.funcs[g]?=some fn)(hb:fn.body=none)(hn:(fn.name == "runtime.NumGoroutine")=false)(ph:(Extern.findNext fn).isNone=true)(he:Extern.find fn=some e) :
  (callFunc g vs).run P w=((e vs).run P w).andThen fun v w' => .ok (.value v) w':=by
 have acE:Extern.findNext fn=none:=Option.isNone_iff_eq_none.1 ph
 simp only[callFunc,Sem.run_bind,run_program,Result.andThen_ok,hf,hn,hb,Option.isNone_none,Bool.false_eq_true,if_false,if_true,run_mark,acE,he,Sem.run_pure]
theorem Fc{κ:Type}[DecidableEq κ]{kv:κ→Value}{g:FuncId}{fn:Func}{args:Array Operand}{FX:Array TypeId}{t:TypeId}{b:Nat}{es:List (κ × Value)}(i:Nat)(hd:Nat.blt d n=true)(hf:P.funcs[g]?=some fn)(hb:fn.body=none)(hn:(fn.name == "runtime.NumGoroutine")=false)(ph:(Extern.findNext fn).isNone=true)(he:Extern.find fn=some Extern.MapsClone.clone)(j5:L9 L args.toList [] = .mk [.iface t (.map (some b))])(hi:cq H i=some (aM kv b es))(hS:∀b' w,Sat G w (aM kv b' es::H)→Sx rest S w)(h:∀b',J P f n R G S all rest k ((d,.iface t (.map (some b')))::L) (aM kv b' es::H)) :
  J P f n R G S all (.cons false true ⟨some d,.call { callee := .value (.func g),args:=args,argTypes:=FX },ty,pos,af,gd⟩ rest) k L H:=by
 refine n6 hd (fun u H1=>∃b',u = .iface t (.map (some b'))∧H1=aM kv b' es::H) (fun a w ha hw=>?_) ?_ ?_
 ·obtain⟨o,hm,KU⟩:=hw.oN hi
  have zu:=hm
  obtain⟨entries,clock,rfl,rh,j4,kP,G4⟩:=hm
  refine⟨_,{ w with heap:=w.heap.push (.map entries clock) },_,?_,⟨w.heap.size,rfl,rfl⟩,?_⟩
  ·simp only[execOp,resolve,Sem.run_bind,Act.eval,Deferred.ofValue,Sem.run_pure,Result.andThen_ok,invoke]
   rw[show(args.map fun x=>a.eval x)=args.map a.eval from rfl]at *
   have hav:=mT ha _ _ j5
   rw[show Array.map a.eval args = #[.iface t (.map (some b))]from hav]
   simp only[Array.empty_append,Array.append_empty]
   rw[xA hf hb hn ph he]
   have ln:Extern.MapsClone.clone #[.iface t (.map (some b))]=(getObj b >>= fun o=>match o with
     | .map entries clock=>newObj (.map entries clock) >>= fun r=>pure (.iface t (.map (some r)))
     | _=>stuck "maps.clone: a map expected"):=rfl
   rw[ln]
   simp only[Sem.run_bind,run_getObj_map KU,Result.andThen_ok,run_newObj,Sem.run_pure]
  ·have h3:=hw.alloc (.map entries clock)
   exact h3.cy (ao.fold (B:=[_]) fun h hs=>⟨h,sub.refl h,_,zu,eN hs⟩)
 ·rintro u H1 w⟨b',rfl,rfl⟩ hw;exact hS b' w hw
 ·rintro u H1⟨b',rfl,rfl⟩;exact h b'
theorem Ps{x:Operand}{xt t:TypeId}{bM:Ty}{v:Value}(hd:Nat.blt d n=true)(hx:ev L x=some (.iface t v))(ht:U.get t=some bM)(hni:(match bM.gC with | .interface _=>false|_=>true)=true)(h:J P f n R G S all rest k ((d,v)::L) H):J P f n R G S all (.cons m true ⟨some d,.typeAssert x xt t false,ty,pos,af,gd⟩ rest) k L H :=
 dk hd (fun a ha w=>by
  simp only[execOp,ha.ev hx,Instr.typeAssert,Sem.run_bind,run_underlying ht,Result.andThen_ok]
  cases hu:bM.gC <;> simp_all) h
theorem LL{x:Operand}{t:TypeId}{bM:Ty}{v:Value}(hd:Nat.blt d n=true)(hx:ev L x=some v)(ht:U.get t=some bM)(hni:(match bM.gC with | .interface _=>false|_=>true)=true)(h:J P f n R G S all rest k ((d,.iface t v)::L) H):J P f n R G S all (.cons m true ⟨some d,.makeInterface t x,ty,pos,af,gd⟩ rest) k L H :=
 dk hd (fun a ha w=>by
  simp only[execOp,ha.ev hx,Instr.makeInterface,Sem.run_bind,run_underlying ht,Result.andThen_ok]
  cases hu:bM.gC <;> simp_all) h
def Row(w:World)(b:Nat):Prop:=∃l e,w.heap[b]?=some (cl l e)
theorem Da{b1 o1 b2 o2:Nat}{w:World}(h1:Row w b1)(h2:Row w b2):(sameAddr ⟨b1,o1,none⟩ ⟨b2,o2,none⟩).run P w = .ok (decide (b1=b2∧o1=o2)) w:=by
 obtain⟨l1,e1,nK⟩:=h1
 obtain⟨l2,e2,qM⟩:=h2
 unfold sameAddr
 by_cases hb:b1=b2
 ·subst hb
  simp only[beq_self_eq_true,if_true,Sem.run_pure,true_and]
  congr 1
  rw[Bool.eq_iff_iff];simp
 ·have bT:(b1 == b2)=false:=by simpa using hb
  have f1:∀o,w.frozen? ⟨b1,o,none⟩=false:=fun o=>k7 nK
  have f2:∀o,w.frozen? ⟨b2,o,none⟩=false:=fun o=>k7 qM
  have s1:w.shape? b1=some (e1,l1.length):=by simp[World.shape?,nK,cl]
  have s2:w.shape? b2=some (e2,l2.length):=by simp[World.shape?,qM,cl]
  simp[bT,f1,f2,noView,viewAt,s1,s2,mayBeOne,stringish,hb]
theorem RJ{x y:Operand}{t yt el:TypeId}{bM te:Ty}{b1 o1 b2 o2:Nat}(hd:Nat.blt d n=true)(hx:ev L x=some (.pointer (some ⟨b1,o1,none⟩)))(hy:ev L y=some (.pointer (some ⟨b2,o2,none⟩)))(ht:U.get t=some bM)(hu:bM.gC = .pointer el)(he:U.get el=some te)(ir:Nat.beq te.info.size 0=false)(h1:∀w,Sat G w H→Row w b1)(h2:∀w,Sat G w H→Row w b2)(h:J P f n R G S all rest k ((d,.bool (decide (b1=b2∧o1=o2)))::L) H):J P f n R G S all (.cons false true ⟨some d,.binOp .eql t x y yt,ty,pos,af,gd⟩ rest) k L H :=
 ku hd (fun a w ha hw=>by
  have hr:=Da (P:=P) (o1:=o1) (o2:=o2) (h1 w hw) (h2 w hw)
  have bT:te.info.size≠0:=Nat.ne_of_beq_eq_false ir
  have heq:(Op.equal t (.pointer (some ⟨b1,o1,none⟩)) (.pointer (some ⟨b2,o2,none⟩))).run P w = .ok (decide (b1=b2∧o1=o2)) w:=by
   unfold Op.equal Op.maxDepth Op.equalIn
   simp only[Sem.run_bind,run_underlying ht,Result.andThen_ok,hu,run_sizeOf he,ne_eq,bT,not_false_eq_true,if_true,hr]
  have hg:(eqGuard .eql t x y (.pointer (some ⟨b1,o1,none⟩)) (.pointer (some ⟨b2,o2,none⟩))).run P w = .ok () w:=by simp[eqGuard]
  have hb:(binOp .eql t (.pointer (some ⟨b1,o1,none⟩)) (.pointer (some ⟨b2,o2,none⟩))).run P w = .ok (.bool (decide (b1=b2∧o1=o2))) w:=by
   simp only[binOp,Sem.run_bind,heq,Result.andThen_ok,Sem.run_pure]
  simp only[execOp,ha.ev hx,ha.ev hy,Sem.run_bind,hg,hb,Result.andThen_ok,Sem.run_pure]) h
theorem Jr{x:Operand}{t elem:TypeId}{bM te:Ty}{z:Value}{b o nn cap:Nat}{l l':List Value}{e:TypeId}(i:Nat)(hS:∀w,Sat G w H'→Sx rest S w)(hx:ev L x=some (.slice (some ⟨b,o,none⟩) nn cap))(ht:U.get t=some bM)(hu:bM.gC = .slice elem)(he:U.get elem=some te)(hz:te.info.zero=some z)(L4:Nat.beq (aX z).length te.info.size=true)(gu:ix (aX z)=true)(hi:cq H i=some (ag b (cl l e)))(yj:o+nn*te.info.size≤l.length)(KH:l'=l.take o++(List.replicate nn (aX z)).flatten++l.drop (o+nn*te.info.size))(hp:lh i (ag b (cl l' e)) H [] = .mk H')(h:J P f n R G S all rest k L H'):J P f n R G S all (.cons false true ⟨none,.call { callee := .builtin .clear,args := #[x],argTypes := #[t] },ty,pos,af,gd⟩ rest) k L H:=by
 intro a w ha hw _
 have abW:(aX z).length=te.info.size:=Nat.eq_of_beq_eq_true L4
 have G1:(Builtin.zeroCells z.cells nn).toList=(List.replicate nn (aX z)).flatten:=by
  have si:z.cells.size=(aX z).length:=by rw[dH];simp
  unfold Builtin.zeroCells
  simp only[Array.toList_map,Array.toList_range,si]
  rw[dH]
  induction nn with
  | zero=>simp
  | succ nn ih =>
   clear ih
   rw[List.replicate_succ',List.flatten_append]
   have acV:∀q,List.map (fun i=>(aX z).toArray[i%(aX z).length]!) (List.range (q*(aX z).length))=(List.replicate q (aX z)).flatten:=by
    intro q
    induction q with
    | zero=>simp
    | succ q ih =>
     rw[List.replicate_succ',List.flatten_append,← ih,Nat.succ_mul,List.range_add,List.map_append]
     congr 1
     simp only[List.map_map,List.flatten_cons,List.flatten_nil,List.append_nil]
     apply List.ext_getElem?
     intro j
     by_cases hj:j<(aX z).length
     ·simp only[List.getElem?_map,List.getElem?_range hj,Option.map_some,Function.comp]
      rw[Nat.mul_comm,Nat.mul_add_mod,Nat.mod_eq_of_lt hj]
      simp[hj]
     ·rw[List.getElem?_eq_none (by simp;omega),List.getElem?_eq_none ah]
   have:=acV (nn+1)
   rw[List.replicate_succ',List.flatten_append]at this
   exact this
 have hlen:((List.replicate nn (aX z)).flatten).length=nn*te.info.size:=by simp[abW]
 have cF:=gm (P:=P) ((List.replicate nn (aX z)).flatten) 0 o l w (hw.tD hi) (by rw[hlen];simpa using yj) (fun u hu=>by
  simp only[List.mem_flatten,List.mem_replicate]at hu
  obtain⟨l2,⟨_,rfl⟩,hu⟩:=hu
  exact vF gu u hu)
 simp only[Nat.add_zero,hlen,← KH]at cF
 have hs:=hw.put hi hp
 refine .inl ⟨.inl rfl,.inr ⟨rfl,?_⟩⟩
 by_cases h0:nn=0
 ·subst h0
  have hll:l'=l:=by rw[KH];simp
  subst hll
  have hss:Sat G w H':=by
   have hb:=hw.tD hi
   have cW:b<w.heap.size:=by
    rcases Nat.lt_or_ge b w.heap.size with h'|h'
    ·exact h'
    ·rw[Array.getElem?_eq_none h']at hb;cases hb
   have KU:w.heap[b]=cl l' e:=by rw[Array.getElem?_eq_getElem cW]at hb;exact Option.some.inj hb
   have:w.heap.setIfInBounds b (cl l' e)=w.heap:=by rw[← KU];simp[Array.setIfInBounds,cW]
   rw[this]at hs;exact hs
  have:(execOp a.eval ⟨none,.call { callee := .builtin .clear,args := #[x],argTypes := #[t] },ty,pos,af,gd⟩).run P w = .ok (.value (.tuple #[])) w:=by
   simp[execOp,resolve,invoke,builtin,ha.ev hx,Builtin.clear_,run_underlying ht,hu]
  exact ib this ⟨hS _ hss,h a _ ha hss (hS _ hss)⟩
 ·have:(execOp a.eval ⟨none,.call { callee := .builtin .clear,args := #[x],argTypes := #[t] },ty,pos,af,gd⟩).run P w = .ok (.value (.tuple #[])) { w with heap:=w.heap.setIfInBounds b (cl l' e) }:=by
   obtain⟨q,rfl⟩:∃q,nn=q+1:=⟨nn-1,ah⟩
   simp only[execOp,resolve,invoke,builtin,Sem.run_bind,Sem.run_pure,Result.andThen_ok,List.map_toArray,List.map_cons,List.map_nil,ha.ev hx,Builtin.clear_,List.getElem?_toArray,List.getElem?_cons_zero,run_underlying ht,hu,dN he hz,G1,cF]
  exact ib this ⟨hS _ hs,h a _ ha hs (hS _ hs)⟩
end
end Go.SL
