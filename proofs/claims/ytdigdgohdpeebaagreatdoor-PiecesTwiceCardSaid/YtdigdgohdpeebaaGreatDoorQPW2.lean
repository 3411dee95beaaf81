import Derived.Test.YtdigdgohdpeebaaGreatDoorQPW1
import Derived.IntWalk
import Derived.Laws.BytesString
import Derived.Laws.IdiomStrings
set_option linter.unusedSectionVars false
set_option linter.unusedSimpArgs false
set_option linter.unusedVariables false
set_option linter.defProp false
namespace Go.SL
inductive ab9 where
 | mk (H:List HP)
 | no
def R6:List HP→List HP→ab9
 | [],l => .mk l
 | x::acc,l=>R6 acc (x::l)
def lL:Nat→HP→List HP→List HP→ab9
 | _,_,[],_ => .no
 | 0,A,_::l,acc=>R6 acc (A::l)
 | i+1,A,B::l,acc=>lL i A l (B::acc)
def R5(acc l r:List HP)(h:R6 acc l = .mk r):r=acc.reverse++l:=by
 induction acc generalizing l with
 | nil=>simp[R6]at h;simp[h]
 | cons x acc ih=>have:=ih (x::l) h;simp[this]
def oO(i:Nat)(A B:HP)(H acc r:List HP)(h:lL i A H acc = .mk r)(hB:cE H i=some B):r.Perm (A::(acc.reverse++H.eraseIdx i)):=by
 induction H generalizing i acc with
 | nil=>cases i <;> simp[lL]at h
 | cons C l ih =>
  cases i with
  | zero =>
   simp only[lL]at h
   rw[R5 _ _ _ h]
   simp only[List.eraseIdx_cons_zero]
   exact List.perm_middle
  | succ i =>
   simp only[lL]at h
   simp only[cE]at hB
   have:=ih i (C::acc) h hB
   simpa using this
def Sat.put{G:cI}{w:World}{H H':List HP}{i:Nat}{b:Nat}{o o':Obj}(hs:Sat G w H)(hi:cE H i=some (ae b o))(hp:lL i (ae b o') H [] = .mk H') :
  Sat G { w with heap:=w.heap.setIfInBounds b o' } H':=by
 have h1:=hs.set (o':=o') (i:=i) (by rw[← dI];exact hi)
 have h2:=oO i _ _ H [] H' hp hi
 exact h1.cN (ao.perm (by simpa using h2.symm))
def dm(h:Hp)(b off:Nat):Option Value:=match h b with
 | some (.cells c _ _)=>c[off]?
 | _=>none
def Vw(A:HP)(v:Value)(n:Nat)(cs:List Value):Prop :=
 ∃a cap,v = .slice a n cap∧(cs=[]∨∃b o,a=some ⟨b,o,none⟩∧∀h,A h→∀j c,cs[j]?=some c→dm h b (o+j)=some c)
def az(e:TypeId)(size:Nat)(v:Value)(n:Nat)(cs:List Value):HP:=fun h =>
 cs.length=n*size∧((∃a,v = .slice a 0 0∧n=0∧emp h) ∨
  ∃b o cap pre bR,v = .slice (some ⟨b,o,none⟩) n cap∧pre.length=o∧n≤cap∧cap*size≤cs.length+bR.length∧ae b (cl (pre++cs++bR) e) h)
def dY{h:Hp}{w:World}{b off:Nat}{v:Value}(hw:∀b o,h b=some o→w.heap[b]?=some o)(hc:dm h b off=some v):w.cell? ⟨b,off,none⟩=some v:=by
 unfold dm at hc
 split at hc
 ·rename_i c e fr hb
  simp[World.cell?,hw b _ hb,hc]
 ·cases hc
def Sat.lj{G:cI}{w:World}{H:List HP}(hs:Sat G w H){i:Nat}{A:HP}(hi:cE H i=some A):∃h:Hp,(∀b o,h b=some o→w.heap[b]?=some o)∧A h:=by
 rw[dI]at hi
 exact(hs.cN (ao.perm (di hi))).head
def Sat.tS{G:cI}{w:World}{H:List HP}(hs:Sat G w H){i:Nat}{b:Nat}{o:Obj}(hi:cE H i=some (ae b o)):w.heap[b]?=some o:=by
 rw[dI]at hi
 exact hs.get hi
def pk:List Value→Nat→Nat→List Value→Mh
 | l,0,0,acc=>let _:=l;Cr acc []
 | x::l,0,m+1,acc=>pk l 0 m (x::acc)
 | _::l,i+1,m,acc=>pk l i m acc
 | [],_,_,_ => .no
def Du:∀(l:List Value) (i m:Nat) (acc r:List Value),pk l i m acc = .mk r→r=acc.reverse++(l.drop i).take m∧i+m≤l.length:=by
 intro l
 induction l with
 | nil =>
  intro i m acc r h
  cases i with
  | zero=>cases m with
   | zero=>simp only[pk]at h;have:=rf _ _ _ h;simp[this]
   | succ m=>simp[pk]at h
  | succ i=>cases m <;> simp[pk]at h
 | cons x l ih =>
  intro i m acc r h
  cases i with
  | zero=>cases m with
   | zero=>simp only[pk]at h;have:=rf _ _ _ h;simp[this]
   | succ m =>
    simp only[pk]at h
    obtain⟨h1,h2⟩:=ih 0 m (x::acc) r h
    simp at h1 h2
    exact⟨by simp[h1],by simp;omega⟩
  | succ i =>
   have h':pk l i m acc = .mk r:=by cases m <;> simpa[pk]using h
   obtain⟨h1,h2⟩:=ih i m acc r h'
   exact⟨by simp[h1],by simp;omega⟩
section
variable{P:Program}{U:Tr}[hU:fV P U]{f:FuncId}{n:Nat}{R:Ending→World→Prop}{G:cI}{k:List Item}{L:fD}{H H':List HP}{S:World→Prop}{all:Array Oper}{rest:Pl}{ty:TypeId}{pos:String}{af:Array Edge}{gd:Option (Nat × Bool)}{m:Bool}{d:Tmp}
def oy{op:Op}(hd:Nat.blt d n=true)(q:Value→List HP→Prop)(hv:∀a w,Has n L a→Sat G w H→∃v w' H',(execOp a.eval ⟨some d,op,ty,pos,af,gd⟩).run P w = .ok (.value v) w'∧q v H'∧Sat G w' H')(hS:∀v H' w,q v H'→Sat G w H'→Sx rest S w)(h:∀v H',q v H'→J P f n R G S all rest k ((d,v)::L) H'):J P f n R G S all (.cons false true ⟨some d,op,ty,pos,af,gd⟩ rest) k L H:=by
 intro a w ha hw _
 obtain⟨v,w',H',hr,hq,mR⟩:=hv a w ha.1 hw
 refine .inl ⟨.inl rfl,.inr ⟨rfl,?_⟩⟩
 exact iB hr ⟨hS v H' w' hq mR,h v H' hq _ w' (ha.put hd v) mR (hS v H' w' hq mR)⟩
def Qi{op:Op}(q:List HP→Prop)(hv:∀a w,Has n L a→Sat G w H→∃w' H',(execOp a.eval ⟨none,op,ty,pos,af,gd⟩).run P w = .ok .skip w'∧q H'∧Sat G w' H')(hS:∀H' w,q H'→Sat G w H'→Sx rest S w)(h:∀H',q H'→J P f n R G S all rest k L H'):J P f n R G S all (.cons false true ⟨none,op,ty,pos,af,gd⟩ rest) k L H:=by
 intro a w ha hw _
 obtain⟨w',H',hr,hq,mR⟩:=hv a w ha.1 hw
 refine .inl ⟨.inl rfl,.inr ⟨rfl,?_⟩⟩
 exact wpIn_skip hr ⟨hS H' w' hq mR,h H' hq a w' ha mR (hS H' w' hq mR)⟩
def kL{op:Op}{v:Value}(hd:Nat.blt d n=true)(hv:∀a w,Has n L a→Sat G w H→(execOp a.eval ⟨some d,op,ty,pos,af,gd⟩).run P w = .ok (.value v) w)(h:J P f n R G S all rest k ((d,v)::L) H):J P f n R G S all (.cons false true ⟨some d,op,ty,pos,af,gd⟩ rest) k L H:=by
 intro a w ha hw hS
 refine .inl ⟨.inl rfl,.inr ⟨rfl,?_⟩⟩
 exact iB (hv a w ha.1 hw) ⟨Sx.of hS,h _ w (ha.put hd v) hw (Sx.of hS)⟩
def kU{op:Op}{v:Value}(hd:Nat.blt d n=true)(hv:∀a w,Has n L a→S w→(execOp a.eval ⟨some d,op,ty,pos,af,gd⟩).run P w = .ok (.value v) w)(h:J P f n R G S all rest k ((d,v)::L) H):J P f n R G S all (.cons true true ⟨some d,op,ty,pos,af,gd⟩ rest) k L H:=by
 intro a w ha hw hS
 exact .inl ⟨.inl rfl,.inl ⟨rfl,v,fun w hw=>hv a w ha.1 hw,h _ w (ha.put hd v) hw (Sx.of hS)⟩⟩
def oL{t:TypeId}{bQ:Ty}{b off:Nat}{v:Value}{w:World}(ht:U.get t=some bQ)(hg:bQ.isAgg=false)(hc:w.cell? ⟨b,off,none⟩=some v) :
  (Instr.loadAt t (.pointer (some ⟨b,off,none⟩))).run P w = .ok v w:=by
 simp[Instr.loadAt,Instr.sureAddr,loadVar,qL ht,hg,hc]
def eZ{t:TypeId}{x:Operand}{b off:Nat}{bQ:Ty}{l:List Value}{e:TypeId}{v:Value}(i:Nat)(hd:Nat.blt d n=true)(hx:ev L x=some (.pointer (some ⟨b,off,none⟩)))(hi:cE H i=some (ae b (cl l e)))(hv:cE l off=some v)(ht:U.get t=some bQ)(hg:bQ.isAgg=false)(h:J P f n R G S all rest k ((d,v)::L) H):J P f n R G S all (.cons false true ⟨some d,.load t x,ty,pos,af,gd⟩ rest) k L H :=
 kL hd (fun a w ha hw=>by
  have hc:w.cell? ⟨b,off,none⟩=some v:=by rw[dG (hw.tS hi),← dI];exact hv
  simp[execOp,ha.ev hx,oL ht hg hc]) h
def C2{t:TypeId}{x:Operand}{b off:Nat}{bQ:Ty}{v:Value}(hd:Nat.blt d n=true)(hx:ev L x=some (.pointer (some ⟨b,off,none⟩)))(hv:∀w,S w→w.cell? ⟨b,off,none⟩=some v)(ht:U.get t=some bQ)(hg:bQ.isAgg=false)(h:J P f n R G S all rest k ((d,v)::L) H):J P f n R G S all (.cons true true ⟨some d,.load t x,ty,pos,af,gd⟩ rest) k L H :=
 kU hd (fun a w ha hS=>by simp[execOp,ha.ev hx,oL ht hg (hv w hS)]) h
def xg{t:TypeId}{x:Operand}{b off:Nat}{bQ:Ty}{v:Value}(hd:Nat.blt d n=true)(hx:ev L x=some (.pointer (some ⟨b,off,none⟩)))(hv:∀w,Sat G w H→w.cell? ⟨b,off,none⟩=some v)(ht:U.get t=some bQ)(hg:bQ.isAgg=false)(h:J P f n R G S all rest k ((d,v)::L) H):J P f n R G S all (.cons false true ⟨some d,.load t x,ty,pos,af,gd⟩ rest) k L H :=
 kL hd (fun a w ha hS=>by simp[execOp,ha.ev hx,oL ht hg (hv w hS)]) h
def ix{Hs:List HP}{t:TypeId}{x:Operand}{b off:Nat}{bQ:Ty}{l:List Value}{e:TypeId}{v:Value}(i:Nat)(hd:Nat.blt d n=true)(hx:ev L x=some (.pointer (some ⟨b,off,none⟩)))(hi:cE Hs i=some (ae b (cl l e)))(hv:cE l off=some v)(ht:U.get t=some bQ)(hg:bQ.isAgg=false)(h:J P f n R G (fun w=>Sat G w Hs) all rest k ((d,v)::L) H):J P f n R G (fun w=>Sat G w Hs) all (.cons true true ⟨some d,.load t x,ty,pos,af,gd⟩ rest) k L H :=
 C2 (U:=U) hd hx (fun w hw=>by rw[dG (hw.tS hi),← dI];exact hv) ht hg h
def iG{t:TypeId}{bQ:Ty}{b off:Nat}{cs:List Value}{w:World}(ht:U.get t=some bQ)(hg:bQ.isAgg=true)(hl:cs.length=bQ.info.size)(hc:∀j v,cs[j]?=some v→w.cell? ⟨b,off+j,none⟩=some v) :
  (Instr.loadAt t (.pointer (some ⟨b,off,none⟩))).run P w = .ok (.agg cs.toArray) w:=by
 have h1:=run_loadCells_list (P:=P) w ⟨b,off,none⟩ cs (fun j v hj=>by
  have:=hc j v hj
  unfold Addr.add
  split
  ·rename_i h0;subst h0;simpa using this
  ·simpa using this)
 simp[Instr.loadAt,Instr.sureAddr,loadVar,qL ht,hg,run_sizeOf ht,← hl,h1]
def Ms{t:TypeId}{x:Operand}{b off:Nat}{bQ:Ty}{l:List Value}{e:TypeId}{cs:List Value}(i:Nat)(hd:Nat.blt d n=true)(hx:ev L x=some (.pointer (some ⟨b,off,none⟩)))(hi:cE H i=some (ae b (cl l e)))(ht:U.get t=some bQ)(hg:bQ.isAgg=true)(hv:pk l off bQ.info.size [] = .mk cs)(h:J P f n R G S all rest k ((d,.agg cs.toArray)::L) H):J P f n R G S all (.cons false true ⟨some d,.load t x,ty,pos,af,gd⟩ rest) k L H :=
 kL hd (fun a w ha hw=>by
  obtain⟨h1,h2⟩:=Du _ _ _ _ _ hv
  simp only[List.reverse_nil,List.nil_append]at h1
  have hc:∀j v,cs[j]?=some v→w.cell? ⟨b,off+j,none⟩=some v:=fun j v hj=>by
   rw[dG (hw.tS hi)]
   rw[h1,List.getElem?_take]at hj
   split at hj
   ·simpa using hj
   ·cases hj
  have:=iG (P:=P) ht hg (by rw[h1];simp;omega) hc
  simp[execOp,ha.ev hx,this]) h
def gE{b:Nat}{e:TypeId}:∀(vs:List Value) (i off:Nat) (l:List Value) (w:World),w.heap[b]?=some (cl l e)→off+i+vs.length≤l.length→(∀v∈vs,v.oneCell'=true) →
  (storeCells ⟨b,off,none⟩ vs i).run P w = .ok () { w with heap:=w.heap.setIfInBounds b (cl (l.take (off+i)++vs++l.drop (off+i+vs.length)) e) }
 | [],i,off,l,w,hb,_,_=>by
  have:w.heap.setIfInBounds b (cl l e)=w.heap:=by
   have cW:b<w.heap.size:=by
    rcases Nat.lt_or_ge b w.heap.size with h'|h'
    ·exact h'
    ·rw[Array.getElem?_eq_none h']at hb;cases hb
   have Lt:w.heap[b]=cl l e:=by rw[Array.getElem?_eq_getElem cW]at hb;exact Option.some.inj hb
   rw[← Lt];simp[Array.setIfInBounds,cW]
  simp[storeCells,this]
 | v::vs,i,off,l,w,hb,hl,gI=>by
  simp only[List.length_cons]at hl
  have yK:(⟨b,off,none⟩:Addr).add i=⟨b,off+i,none⟩:=by
   unfold Addr.add;split
   ·rename_i h0;subst h0;rfl
   ·rfl
  have dm:w.cell? ⟨b,off+i,none⟩=some (l[off+i]' ag):=by rw[dG hb];simp
  have h1:(store ((⟨b,off,none⟩:Addr).add i) v).run P w = .ok () { w with heap:=w.heap.setIfInBounds b (cl (l.set (off+i) v) e) }:=by
   rw[yK,run_store P w _ v .plain (gI v (by simp))]
   simp only[dm,lE hb,Bool.false_eq_true,if_false,uT hb]
  have cW:b<w.heap.size:=by
   rcases Nat.lt_or_ge b w.heap.size with h'|h'
   ·exact h'
   ·rw[Array.getElem?_eq_none h']at hb;cases hb
  have ih:=gE (b:=b) (e:=e) vs (i+1) off (l.set (off+i) v) { w with heap:=w.heap.setIfInBounds b (cl (l.set (off+i) v) e) } (by simp[cW]) (by simp;omega) (fun u hu=>gI u (by simp[hu]))
  simp only[storeCells,Sem.run_bind,h1,Result.andThen_ok,ih]
  congr 1
  simp only[Array.setIfInBounds_setIfInBounds]
  congr 2
  have aa':off+i<l.length:=by omega
  rw[List.set_eq_take_append_cons_drop,if_pos aa']
  have e1:(List.take (off+i) l++v::List.drop (off+i+1) l).take (off+(i+1))=List.take (off+i) l++[v]:=by
   rw[show off+(i+1)=off+i+1 by omega,List.take_append]
   simp only[List.length_take]
   rw[show min (off+i) l.length=off+i by omega]
   simp[List.take_take,show off+i+1-(off+i)=1 by omega]
  have e2:(List.take (off+i) l++v::List.drop (off+i+1) l).drop (off+(i+1)+vs.length)=List.drop (off+i+(vs.length+1)) l:=by
   rw[List.drop_append]
   simp only[List.length_take]
   rw[show min (off+i) l.length=off+i by omega,List.drop_of_length_le (by simp;omega)]
   rw[show off+(i+1)+vs.length-(off+i)=vs.length+1 by omega]
   simp[show off+i+1+vs.length=off+i+(vs.length+1) by omega]
  rw[e1,e2]
  simp
def iL:List Value→Bool
 | []=>true
 | v::vs=>v.oneCell' && iL vs
def v7{vs:List Value}(h:iL vs=true):∀v∈vs,v.oneCell'=true:=by
 induction vs with
 | nil=>intro v hv;cases hv
 | cons u vs ih =>
  simp only[iL,Bool.and_eq_true]at h
  intro v hv
  rcases List.mem_cons.1 hv with rfl|hv
  ·exact h.1
  ·exact ih h.2 v hv
def vJ{z r vs:List Value}{i:Nat}(h:nr [] i z vs = .mk r)(hv:vs≠[]):r=z.take i++vs++z.drop (i+vs.length)∧i+vs.length≤z.length:=by
 obtain⟨h1,h2,_⟩:=IS _ _ _ _ _ h
 exact⟨by simpa using h2 hv,by simpa[hv]using h1⟩
def eV{t:TypeId}{x y:Operand}{b off:Nat}{bQ:Ty}{l l':List Value}{e:TypeId}{v:Value}(i:Nat)(hS:∀w,Sat G w H'→Sx rest S w)(hx:ev L x=some (.pointer (some ⟨b,off,none⟩)))(hy:ev L y=some v)(ht:U.get t=some bQ)(iY:Nat.beq (bo v).length bQ.info.size=true)(bZ:Nat.beq (bo v).length 0=false)(gI:iL (bo v)=true)(hi:cE H i=some (ae b (cl l e)))(hl:nr [] off l (bo v) = .mk l')(hp:lL i (ae b (cl l' e)) H [] = .mk H')(h:J P f n R G S all rest k L H'):J P f n R G S all (.cons false true ⟨none,.store t x y,ty,pos,af,gd⟩ rest) k L H:=by
 refine Qi (fun H1=>H1=H') (fun a w ha hw=>?_) (fun H1 w e hw=>hS w (e ▸ hw)) (fun H1 e=>e ▸ h)
 have fR:bo v≠[]:=fun e=>by rw[e]at bZ;cases bZ
 obtain⟨h1,h2⟩:=vJ hl fR
 have hr:=gE (P:=P) (bo v) 0 off l w (hw.tS hi) (by simpa using h2) (v7 gI)
 simp only[Nat.add_zero,← h1]at hr
 refine⟨_,H',?_,rfl,hw.put hi hp⟩
 have W6:v.cells.size=bQ.info.size:=by rw[dP];simpa using Nat.eq_of_beq_eq_true iY
 have lH:v.cells.toList=bo v:=by rw[dP]
 simp only[execOp,ha.ev hx,ha.ev hy,Instr.storeAt,Instr.sureAddr,Sem.run_bind,Sem.run_pure,Result.andThen_ok,storeVar,run_sizeOf ht]
 rw[if_neg (by simp[W6])]
 simp only[lH,hr,Result.andThen_ok]
def bG{elem:TypeId}{x:Operand}{v:Value}(hd:Nat.blt d n=true)(hx:ev L x=some v)(hS:∀b w,Sat G w (ae b (cl (bo v) elem)::H)→Sx rest S w)(h:∀b,J P f n R G S all rest k ((d,.pointer (some ⟨b,0,none⟩))::L) (ae b (cl (bo v) elem)::H)) :
  J P f n R G S all (.cons false true ⟨some d,.box elem x,ty,pos,af,gd⟩ rest) k L H:=by
 refine oy hd (fun u H1=>∃b,u = .pointer (some ⟨b,0,none⟩)∧H1=ae b (cl (bo v) elem)::H) (fun a w ha hw=>?_) ?_ ?_
 ·refine⟨_,_,_,?_,⟨w.heap.size,rfl,rfl⟩,hw.alloc _⟩
  simp[execOp,ha.ev hx,Instr.box,newVar,newRow,dP,cl]
 ·rintro u H1 w⟨b,rfl,rfl⟩ hw;exact hS b w hw
 ·rintro u H1⟨b,rfl,rfl⟩;exact h b
def Sw{elem:TypeId}{bQ:Ty}{z:Value}(hd:Nat.blt d n=true)(ht:U.get elem=some bQ)(hz:bQ.info.zero=some z)(hS:∀b w,Sat G w (ae b (cl (bo z) elem)::H)→Sx rest S w)(h:∀b,J P f n R G S all rest k ((d,.pointer (some ⟨b,0,none⟩))::L) (ae b (cl (bo z) elem)::H)) :
  J P f n R G S all (.cons false true ⟨some d,.alloc elem,ty,pos,af,gd⟩ rest) k L H:=by
 refine oy hd (fun u H1=>∃b,u = .pointer (some ⟨b,0,none⟩)∧H1=ae b (cl (bo z) elem)::H) (fun a w ha hw=>?_) ?_ ?_
 ·refine⟨_,_,_,?_,⟨w.heap.size,rfl,rfl⟩,hw.alloc _⟩
  simp[execOp,Instr.alloc,dX ht hz,newVar,newRow,dP,cl]
 ·rintro u H1 w⟨b,rfl,rfl⟩ hw;exact hS b w hw
 ·rintro u H1⟨b,rfl,rfl⟩;exact h b
def ox{t:TypeId}(hd:Nat.blt d n=true)(hS:∀b w,Sat G w (ae b (.map #[] 0)::H)→Sx rest S w)(h:∀b,J P f n R G S all rest k ((d,.map (some b))::L) (ae b (.map #[] 0)::H)) :
  J P f n R G S all (.cons false true ⟨some d,.makeMap t none,ty,pos,af,gd⟩ rest) k L H:=by
 refine oy hd (fun u H1=>∃b,u = .map (some b)∧H1=ae b (.map #[] 0)::H) (fun a w ha hw=>?_) ?_ ?_
 ·refine⟨_,_,_,?_,⟨w.heap.size,rfl,rfl⟩,hw.alloc _⟩
  simp[execOp,Instr.makeMap]
 ·rintro u H1 w⟨b,rfl,rfl⟩ hw;exact hS b w hw
 ·rintro u H1⟨b,rfl,rfl⟩;exact h b
def GW(z:List Value):Nat→List Value→List Value
 | 0,acc=>acc
 | i+1,acc=>GW z i (z++acc)
def vp(L:fD)(size:Nat):List Value→List (Nat × Operand)→Mh
 | z,[] => .mk z
 | z,(i,x)::ps=>match ev L x with
  | some v=>bif Nat.beq (bo v).length 0 then .no else bif Nat.beq (bo v).length size then
    (match nr [] (i*size) z (bo v)with
    | .mk z'=>vp L size z' ps
    | .no => .no)else .no
  | none => .no
def vZ{a:Act}(ha:Has n L a)(size:Nat)(ps:List (Nat × Operand)):∀(z r:List Value),vp L size z ps = .mk r →
  Instr.fill (fun i=>some (i*size,size)) z.toArray (ps.map fun x=>(x.1,a.eval x.2))=some r.toArray:=by
 induction ps with
 | nil=>intro z r h;simp only[vp]at h;cases h;rfl
 | cons p ps ih =>
  obtain⟨i,x⟩:=p
  intro z r h
  simp only[vp]at h
  split at h
  ·rename_i u hu
   cases rP:Nat.beq (bo u).length 0 with
   | true=>simp[rP]at h
   | false =>
   simp only[rP,cond_false]at h
   cases hb:Nat.beq (bo u).length size with
   | false=>simp[hb]at h
   | true =>
    simp only[hb,cond_true]at h
    split at h
    ·rename_i z' hz'
     have hr:=ih z' r h
     simp only[List.map_cons,Instr.fill,ha.ev hu]
     have hlen:(bo u).length=size:=Nat.eq_of_beq_eq_true hb
     have he:bo u≠[]:=fun e=>by rw[e]at rP;cases rP
     obtain⟨h4,h1⟩:=vJ hz' he
     have iY:u.cells.size=size:=by rw[dP];simpa using hlen
     rw[if_neg (by simp[iY];rw[← hlen];rw[← hlen]at h1;exact h1)]
     have:=Bc (bo u) 0 (i*size) z.toArray (by simpa using h1)
     simp only[Nat.add_zero]at this
     have e:((bo u).toArray.zipIdx.foldl (fun cs (x:Value × Nat)=>cs.setIfInBounds (i*size+x.2) x.1) z.toArray)=z'.toArray:=by
      apply Array.ext'
      rw[this,h4]
     rw[dP]
     rw[show((bo u).toArray.zipIdx.foldl (fun cs (x:Value × Nat)=>match x with|(c,j)=>cs.setIfInBounds (i*size+j) c) z.toArray)=z'.toArray from e]
     exact hr
    ·cases h
  ·cases h
def Ah{t elem:TypeId}{bQ te:Ty}{z:Value}{len:Nat}{parts:Array (Nat × Operand)}{cs:List Value}(hd:Nat.blt d n=true)(ht:U.get t=some bQ)(hu:bQ.gy = .slice elem)(he:U.get elem=some te)(hz:te.info.zero=some z)(iY:Nat.beq (bo z).length te.info.size=true)(lA:Nat.blt 0 te.info.size=true)(Ch:Nat.ble (len*te.info.size) 16777216=true)(hb:vp L te.info.size (GW (bo z) len []) parts.toList = .mk cs)(hS:∀b w,Sat G w (ae b (cl cs elem)::H)→Sx rest S w)(h:∀b,J P f n R G S all rest k ((d,.slice (some ⟨b,0,none⟩) len len)::L) (ae b (cl cs elem)::H)) :
  J P f n R G S all (.cons false true ⟨some d,.buildSlice t len parts,ty,pos,af,gd⟩ rest) k L H:=by
 have W6:(bo z).length=te.info.size:=Nat.eq_of_beq_eq_true iY
 have aaZ:0<te.info.size:=by simpa[Nat.blt_eq]using lA
 have Xb:∀(i:Nat) (acc:List Value),GW (bo z) i acc=(List.replicate i (bo z)).flatten++acc:=by
  intro i
  induction i with
  | zero=>intro acc;simp[GW]
  | succ i ih =>
   intro acc
   rw[GW,ih]
   rw[List.replicate_succ']
   simp
 have adp:((Array.range (len*te.info.size)).map fun i=>z.cells[i%z.cells.size]!)=(GW (bo z) len []).toArray:=by
  apply Array.ext'
  rw[Xb]
  simp only[Array.toList_map,Array.toList_range,List.append_nil]
  have pE:z.cells.size=te.info.size:=by rw[dP];simpa using W6
  rw[pE]
  clear Ch hb h hS
  induction len with
  | zero=>simp
  | succ len ih =>
   rw[List.replicate_succ',List.flatten_append,← ih]
   rw[Nat.succ_mul,List.range_add,List.map_append]
   congr 1
   simp only[List.map_map,List.flatten_cons,List.flatten_nil,List.append_nil]
   apply List.ext_getElem?
   intro j
   by_cases hj:j<te.info.size
   ·simp only[List.getElem?_map,List.getElem?_range hj,Option.map_some,Function.comp]
    rw[Nat.mul_comm,Nat.mul_add_mod,Nat.mod_eq_of_lt hj]
    rw[dP]
    have:j<(bo z).length:=by omega
    simp[this]
   ·rw[List.getElem?_eq_none (by simp;omega),List.getElem?_eq_none ag]
 refine oy hd (fun u H1=>∃b,u = .slice (some ⟨b,0,none⟩) len len∧H1=ae b (cl cs elem)::H) (fun a w ha hw=>?_) ?_ ?_
 ·refine⟨_,_,_,?_,⟨w.heap.size,rfl,rfl⟩,hw.alloc _⟩
  have hf:=vZ ha _ _ _ _ hb
  have hle:¬len*te.info.size>2 ^ 24:=by have:=Nat.le_of_ble_eq_true Ch;omega
  simp only[execOp,Instr.buildSlice,Sem.run_bind,run_underlying ht,Result.andThen_ok,hu,run_sizeOf he,if_neg hle,Sem.run_pure]
  by_cases h0:len*te.info.size=0
  ·have O1:len=0:=by
    rcases Nat.eq_zero_or_pos len with h|h
    ·exact h
    ·exact absurd h0 (Nat.ne_of_gt (Nat.mul_pos h aaZ))
   subst O1
   have hf0:Instr.fill (fun i=>some (i*te.info.size,te.info.size)) #[] (parts.toList.map fun x=>(x.1,a.eval x.2))=some cs.toArray:=by simpa[GW]using hf
   have zN:((Array.range 0).map fun i=>(#[]:Array Value)[i%(#[]:Array Value).size]!) = #[]:=by simp
   simp only[Nat.zero_mul,if_true,pure_bind,zN,Array.toList_map]
   rw[show(List.map (fun x:Nat × Operand=>match x with|(i,x)=>(i,a.eval x)) parts.toList)=parts.toList.map (fun x=>(x.1,a.eval x.2))from rfl,hf0]
   simp[newRow,cl]
  ·simp only[if_neg h0,Sem.run_bind,dX he hz,Sem.run_pure,Result.andThen_ok,adp,Array.toList_map]
   rw[show(List.map (fun x:Nat × Operand=>match x with|(i,x)=>(i,a.eval x)) parts.toList)=parts.toList.map (fun x=>(x.1,a.eval x.2))from rfl,hf]
   simp[newRow,cl]
 ·rintro u H1 w⟨b,rfl,rfl⟩ hw;exact hS b w hw
 ·rintro u H1⟨b,rfl,rfl⟩;exact h b
def JY{o:Oper}(h:J P f n R G S all (.cons m false o rest) k L H):J P f n R G S all (.cons m false o rest) k L H:=h
def uu{c x y:Operand}(h:J P f n R G S all (.cons m true ⟨some d,.pick c x y,ty,pos,af,gd⟩ rest) k L H):J P f n R G S all (.cons m true ⟨some d,.pick c x y,ty,pos,af,gd⟩ rest) k L H:=h
def lQ{op:BinOp}{t t':TypeId}{x y:Operand}(h:J P f n R G S all (.cons m true ⟨some d,.binOp op t x y t',ty,pos,af,gd⟩ rest) k L H):J P f n R G S all (.cons m true ⟨some d,.binOp op t x y t',ty,pos,af,gd⟩ rest) k L H:=h
def aK{t:TypeId}{x:Operand}(h:J P f n R G S all (.cons m true ⟨some d,.load t x,ty,pos,af,gd⟩ rest) k L H):J P f n R G S all (.cons m true ⟨some d,.load t x,ty,pos,af,gd⟩ rest) k L H:=h
def aV{t:TypeId}{x y:Operand}(h:J P f n R G S all (.cons m true ⟨none,.store t x y,ty,pos,af,gd⟩ rest) k L H):J P f n R G S all (.cons m true ⟨none,.store t x y,ty,pos,af,gd⟩ rest) k L H:=h
def eP{t t':TypeId}{x:Operand}(h:J P f n R G S all (.cons m true ⟨some d,.convert t t' x,ty,pos,af,gd⟩ rest) k L H):J P f n R G S all (.cons m true ⟨some d,.convert t t' x,ty,pos,af,gd⟩ rest) k L H:=h
def ux{o:Oper}{j t:Nat}{oj:Oper}{b:Bool}(hg:o.guard=some (j,b))(hj:cE all.toList j=some oj)(ht:oj.dst=some t)(hb:dT L t=some (.bool b))(h:J P f n R G S all (.cons m true o rest) k L H):J P f n R G S all (.cons m false o rest) k L H:=by
 intro a w ha hw hS
 have h1:=h a w ha hw (Sx.of hS)
 have nF:all[j]?=some oj:=by rw[dI]at hj;simpa using hj
 have mR:Region.wanted o (yielded all a.tmps)=true:=by
  simp only[Region.wanted,hg,yielded,nF,Option.bind_some,ht,ha.get hb]
  simp
 rcases h1 with⟨_,h1⟩|⟨hf,_⟩
 ·exact .inl ⟨.inr mR,h1⟩
 ·cases hf
def uy{o:Oper}{j t:Nat}{oj:Oper}{b c:Bool}(hd:o.dst=some d)(yG:Nat.blt d n=true)(hg:o.guard=some (j,b))(hj:cE all.toList j=some oj)(ht:oj.dst=some t)(hb:dT L t=some (.bool c))(Pc:(c == b)=false)(h:J P f n R G S all rest k ((d,undef)::L) H):J P f n R G S all (.cons m false o rest) k L H:=by
 intro a w ha hw hS
 have nF:all[j]?=some oj:=by rw[dI]at hj;simpa using hj
 have mR:Region.wanted o (yielded all a.tmps)=false:=by
  simp only[Region.wanted,hg,yielded,nF,Option.bind_some,ht,ha.get hb]
  simpa using Pc
 exact .inr ⟨rfl,mR,by rw[hd];exact h _ w (ha.put yG undef) hw (Sx.of hS)⟩
def rl{o:Oper}{j t:Nat}{oj:Oper}{b c:Bool}(hd:o.dst=none)(hg:o.guard=some (j,b))(hj:cE all.toList j=some oj)(ht:oj.dst=some t)(hb:dT L t=some (.bool c))(Pc:(c == b)=false)(h:J P f n R G S all rest k L H):J P f n R G S all (.cons m false o rest) k L H:=by
 intro a w ha hw hS
 have nF:all[j]?=some oj:=by rw[dI]at hj;simpa using hj
 have mR:Region.wanted o (yielded all a.tmps)=false:=by
  simp only[Region.wanted,hg,yielded,nF,Option.bind_some,ht,ha.get hb]
  simpa using Pc
 exact .inr ⟨rfl,mR,by rw[hd];exact h a w ha hw (Sx.of hS)⟩
def uw{o:Oper}{j t:Nat}{oj:Oper}{b:Bool}(hd:o.dst=some d)(yG:Nat.blt d n=true)(hg:o.guard=some (j,b))(hj:cE all.toList j=some oj)(ht:oj.dst=some t)(hb:dT L t=some undef)(h:J P f n R G S all rest k ((d,undef)::L) H):J P f n R G S all (.cons m false o rest) k L H:=by
 intro a w ha hw hS
 have nF:all[j]?=some oj:=by rw[dI]at hj;simpa using hj
 have mR:Region.wanted o (yielded all a.tmps)=false:=by
  simp only[Region.wanted,hg,yielded,nF,Option.bind_some,ht,ha.get hb,undef]
  rfl
 exact .inr ⟨rfl,mR,by rw[hd];exact h _ w (ha.put yG undef) hw (Sx.of hS)⟩
def xd{c x y:Operand}{v:Value}(hd:Nat.blt d n=true)(hc:ev L c=some (.bool true))(hx:ev L x=some v)(h:J P f n R G S all rest k ((d,v)::L) H):J P f n R G S all (.cons m true ⟨some d,.pick c x y,ty,pos,af,gd⟩ rest) k L H :=
 du hd (fun a ha w=>by simp[execOp,ha.ev hc,ha.ev hx,asBool]) h
def xe{c x y:Operand}{v:Value}(hd:Nat.blt d n=true)(hc:ev L c=some (.bool false))(hy:ev L y=some v)(h:J P f n R G S all rest k ((d,v)::L) H):J P f n R G S all (.cons m true ⟨some d,.pick c x y,ty,pos,af,gd⟩ rest) k L H :=
 du hd (fun a ha w=>by simp[execOp,ha.ev hc,ha.ev hy,asBool]) h
def Sr(t:Nat){b:Bool}(hb:dT L t=some (.bool b))(ht:b=true→J P f n R G S all rest k ((t,.bool true)::L) H)(hf:b=false→J P f n R G S all rest k ((t,.bool false)::L) H) :
  J P f n R G S all rest k L H:=by
 have hs:∀c:Bool,b=c→∀s v,dT ((t,.bool c)::L) s=some v→dT L s=some v:=by
  rintro c rfl s v e
  simp only[dT]at e
  cases cL:Nat.beq t s with
  | true=>simp only[cL,cond_true]at e;rw[← Nat.eq_of_beq_eq_true cL,hb];exact e
  | false=>simpa only[cL,cond_false]using e
 cases b with
 | true=>exact Qa (hs true rfl) (ht rfl)
 | false=>exact Qa (hs false rfl) (hf rfl)
def Qb(t:Nat){p:Prop}[Decidable p](hb:dT L t=some (.bool (decide p)))(ht:p→J P f n R G S all rest k ((t,.bool true)::L) H)(hf:¬p→J P f n R G S all rest k ((t,.bool false)::L) H) :
  J P f n R G S all rest k L H:=Sr t hb (fun h=>ht (of_decide_eq_true h)) (fun h=>hf (of_decide_eq_false h))
def iy{o:Oper}{j t:Nat}{oj:Oper}{p:Prop}[Decidable p]{b:Bool}(hg:o.guard=some (j,b))(hj:cE all.toList j=some oj)(ht:oj.dst=some t)(hb:dT L t=some (.bool (decide p)))(h1:p→J P f n R G S all (.cons m false o rest) k ((t,.bool true)::L) H)(h2:¬p→J P f n R G S all (.cons m false o rest) k ((t,.bool false)::L) H):J P f n R G S all (.cons m false o rest) k L H:=Qb t hb h1 h2
def aB(t:Nat){u:Value}(v:Value)(hb:dT L t=some u)(huv:u=v)(h:J P f n R G S all rest k ((t,v)::L) H):J P f n R G S all rest k L H:=by
 subst huv
 refine Qa (fun s x e=>?_) h
 simp only[dT]at e
 cases cL:Nat.beq t s with
 | true=>simp only[cL,cond_true]at e;rw[← Nat.eq_of_beq_eq_true cL,hb];exact e
 | false=>simpa only[cL,cond_false]using e
def bu(t:Nat){u:Value}(v:Value)(hb:dT L t=some u)(huv:u=v)(h:K P f n R G k ((t,v)::L) H):K P f n R G k L H:=by
 subst huv
 refine JV (fun s x e=>?_) h
 simp only[dT]at e
 cases cL:Nat.beq t s with
 | true=>simp only[cL,cond_true]at e;rw[← Nat.eq_of_beq_eq_true cL,hb];exact e
 | false=>simpa only[cL,cond_false]using e
def gn:IntKind→Int→Prop
 | .i8,x => -128≤x∧x≤127
 | .i16,x => -32768≤x∧x≤32767
 | .i32,x => -2147483648≤x∧x≤2147483647
 | .i64,x => -9223372036854775808≤x∧x≤9223372036854775807
 | .u8,x=>0≤x∧x≤255
 | .u16,x=>0≤x∧x≤65535
 | .u32,x=>0≤x∧x≤4294967295
 | .u64,x=>0≤x∧x≤18446744073709551615
def cQ{j:IntKind}{x:Int}(h:gn j x):j.wrap x=x:=by
 cases j <;> simp only[gn]at h <;> simp[IntKind.wrap,IntKind.bits,IntKind.signed] <;> (try split) <;> omega
def J3{t yt:TypeId}{x y:Operand}{j:IntKind}{p q:Int}(hd:Nat.blt d n=true)(hx:ev L x=some (.int j p))(hy:ev L y=some (.int j q))(hr:gn j (p+q))(h:J P f n R G S all rest k ((d,.int j (p+q))::L) H):J P f n R G S all (.cons m true ⟨some d,.binOp .add t x y yt,ty,pos,af,gd⟩ rest) k L H :=
 du hd (fun a ha w=>by simp[execOp,ha.ev hx,ha.ev hy,eqGuard,binOp,Op.intArith,cQ hr]) h
def CY{t yt:TypeId}{x y:Operand}{j:IntKind}{p q:Int}(hd:Nat.blt d n=true)(hx:ev L x=some (.int j p))(hy:ev L y=some (.int j q))(hr:gn j (p-q))(h:J P f n R G S all rest k ((d,.int j (p-q))::L) H):J P f n R G S all (.cons m true ⟨some d,.binOp .sub t x y yt,ty,pos,af,gd⟩ rest) k L H :=
 du hd (fun a ha w=>by simp[execOp,ha.ev hx,ha.ev hy,eqGuard,binOp,Op.intArith,cQ hr]) h
def ib{t yt:TypeId}{x y:Operand}{j:IntKind}{p q:Int}(hd:Nat.blt d n=true)(hx:ev L x=some (.int j p))(hy:ev L y=some (.int j q))(hr:gn j (p*q))(h:J P f n R G S all rest k ((d,.int j (p*q))::L) H):J P f n R G S all (.cons m true ⟨some d,.binOp .mul t x y yt,ty,pos,af,gd⟩ rest) k L H :=
 du hd (fun a ha w=>by simp[execOp,ha.ev hx,ha.ev hy,eqGuard,binOp,Op.intArith,cQ hr]) h
def Iu{t yt:TypeId}{x y:Operand}{j:IntKind}{p q:Int}(hd:Nat.blt d n=true)(hx:ev L x=some (.int j p))(hy:ev L y=some (.int j q))(h:J P f n R G S all rest k ((d,.int j (j.wrap (p+q)))::L) H):J P f n R G S all (.cons m true ⟨some d,.binOp .add t x y yt,ty,pos,af,gd⟩ rest) k L H :=
 du hd (fun a ha w=>by simp[execOp,ha.ev hx,ha.ev hy,eqGuard,binOp,Op.intArith]) h
def Yu{t yt:TypeId}{x y:Operand}{j:IntKind}{p q:Int}(hd:Nat.blt d n=true)(hx:ev L x=some (.int j p))(hy:ev L y=some (.int j q))(h:J P f n R G S all rest k ((d,.int j (j.wrap (p*q)))::L) H):J P f n R G S all (.cons m true ⟨some d,.binOp .mul t x y yt,ty,pos,af,gd⟩ rest) k L H :=
 du hd (fun a ha w=>by simp[execOp,ha.ev hx,ha.ev hy,eqGuard,binOp,Op.intArith]) h
def ou{t yt:TypeId}{x y:Operand}{j:IntKind}{p q:Int}(hd:Nat.blt d n=true)(hx:ev L x=some (.int j p))(hy:ev L y=some (.int j q))(hp:0≤p)(hq:0<q)(h:J P f n R G S all rest k ((d,.int j (p%q))::L) H):J P f n R G S all (.cons m true ⟨some d,.binOp .rem t x y yt,ty,pos,af,gd⟩ rest) k L H :=
 du hd (fun a ha w=>by
  have h0:¬q=0:=by omega
  simp[execOp,ha.ev hx,ha.ev hy,eqGuard,binOp,Op.intDiv,h0,Int.tmod_eq_emod_of_nonneg hp]) h
def lI{t yt:TypeId}{x y:Operand}{j:IntKind}{p q:Int}(hd:Nat.blt d n=true)(hx:ev L x=some (.int j p))(hy:ev L y=some (.int j q))(hp:0≤p)(hq:0<q)(hr:gn j (p/q))(h:J P f n R G S all rest k ((d,.int j (p/q))::L) H):J P f n R G S all (.cons m true ⟨some d,.binOp .quo t x y yt,ty,pos,af,gd⟩ rest) k L H :=
 du hd (fun a ha w=>by
  have h0:¬q=0:=by omega
  simp[execOp,ha.ev hx,ha.ev hy,eqGuard,binOp,Op.intDiv,h0,Int.tdiv_eq_ediv_of_nonneg hp,cQ hr]) h
def jo{t yt:TypeId}{x y:Operand}{j j':IntKind}{p q:Int}(hd:Nat.blt d n=true)(hx:ev L x=some (.int j p))(hy:ev L y=some (.int j' q))(hq:0≤q)(h:J P f n R G S all rest k ((d,.int j (p/2 ^ (min q.toNat j.bits)))::L) H):J P f n R G S all (.cons m true ⟨some d,.binOp .shr t x y yt,ty,pos,af,gd⟩ rest) k L H :=
 du hd (fun a ha w=>by
  have h0:¬q<0:=by omega
  have lA:(0:Int)≤2 ^ (min q.toNat j.bits):=Int.le_of_lt (Int.pow_pos ag)
  simp[execOp,ha.ev hx,ha.ev hy,eqGuard,binOp,Op.shift,h0,Int.fdiv_eq_ediv_of_nonneg p lA]) h
def mK{t yt:TypeId}{x y:Operand}{j j':IntKind}{p q:Int}(hd:Nat.blt d n=true)(hx:ev L x=some (.int j p))(hy:ev L y=some (.int j' q))(hq:0≤q)(h:J P f n R G S all rest k ((d,.int j (j.wrap (p*2 ^ (min q.toNat j.bits))))::L) H):J P f n R G S all (.cons m true ⟨some d,.binOp .shl t x y yt,ty,pos,af,gd⟩ rest) k L H :=
 du hd (fun a ha w=>by
  have h0:¬q<0:=by omega
  simp[execOp,ha.ev hx,ha.ev hy,eqGuard,binOp,Op.shift,h0]) h
def zE{src dst:TypeId}{ts td:Ty}{x:Operand}{j j' jd:IntKind}{p:Int}(hd:Nat.blt d n=true)(hx:ev L x=some (.int j p))(hs:U.get src=some ts)(Ey:ts.gy = .int j')(ES:U.get dst=some td)(ER:td.gy = .int jd)(hr:gn jd p)(h:J P f n R G S all rest k ((d,.int jd p)::L) H):J P f n R G S all (.cons m true ⟨some d,.convert src dst x,ty,pos,af,gd⟩ rest) k L H :=
 du hd (fun a ha w=>by simp[execOp,ha.ev hx,convert,run_underlying hs,run_underlying ES,Ey,ER,Conv.intToInt,cQ hr]) h
def J1{src dst:TypeId}{ts td:Ty}{x:Operand}{j j' jd:IntKind}{p:Int}(hd:Nat.blt d n=true)(hx:ev L x=some (.int j p))(hs:U.get src=some ts)(Ey:ts.gy = .int j')(ES:U.get dst=some td)(ER:td.gy = .int jd)(h:J P f n R G S all rest k ((d,.int jd (jd.wrap p))::L) H):J P f n R G S all (.cons m true ⟨some d,.convert src dst x,ty,pos,af,gd⟩ rest) k L H :=
 du hd (fun a ha w=>by simp[execOp,ha.ev hx,convert,run_underlying hs,run_underlying ES,Ey,ER,Conv.intToInt]) h
def lK{g:FuncId}{vs:Array Value}{w:World}(h:P.funcs[g]?.map mB=some true):(callFunc g vs).run P w = .ok (.enter g vs) w:=by
 cases hf:P.funcs[g]? with
 | none=>rw[hf]at h;cases h
 | some fn =>
  rw[hf]at h
  simp only[Option.map_some,Option.some.injEq,mB,Bool.and_eq_true,Bool.not_eq_true']at h
  have h1:fn.body.isNone=false:=by cases hb:fn.body <;> simp_all
  simp only[callFunc,Sem.run_bind,run_program,Result.andThen_ok,hf,h.2,h1,Bool.false_eq_true,if_false,Sem.run_pure]
def cF{fo:Operand}{args:Array Operand}{xr:Array TypeId}{g:FuncId}{cap:Array Value}{vs:List Value}{Pre Fr:List HP}{Post:Value→List HP→Prop}(is:List Nat)(hd:Nat.blt d n=true)(hf:ev L fo=some (.func (.func g) #[] cap))(gS:Gq L args.toList [] = .mk vs){as:List Value}(has:as=vs++cap.toList)(c:aE P g as Pre Post)(hp:tA is [] H [] = .mk Pre Fr)(hS:∀v H' w,Post v H'→Sat G w (H'++Fr)→Sx rest S w)(h:∀v H',Post v H'→J P f n R G S all rest k ((d,v)::L) (H'++Fr)) :
  J P f n R G S all (.cons false true ⟨some d,.call { callee := .value fo,args:=args,argTypes:=xr },ty,pos,af,gd⟩ rest) k L H:=by
 intro a w ha hw _
 refine .inl ⟨.inl rfl,.inr ⟨rfl,?_⟩⟩
 have hr:(execOp a.eval ⟨some d,.call { callee := .value fo,args:=args,argTypes:=xr },ty,pos,af,gd⟩).run P w = .ok (.enter g as.toArray) w:=by
  simp only[execOp,resolve,Sem.run_bind,ha.ev hf,Deferred.ofValue,Sem.run_pure,Result.andThen_ok,invoke]
  rw[lK c.1,nh ha.1 _ _ gS,has]
  congr 2
  simp
 refine uL (fun c hc=>by cases hc) hr (Calls.mono (c.2 G w Fr (hw.pick is hp)) ?_)
 rintro e w'⟨v,H',rfl,fJ,mR⟩
 exact⟨v,rfl,hS v H' w' fJ mR,h v H' fJ _ w' (ha.put hd v) mR (hS v H' w' fJ mR)⟩
end
end Go.SL
namespace Go.SL
def Vw.oR(e:TypeId)(size:Nat)(v:Value)(n:Nat)(cs:List Value)(h0:∃h,az e size v n cs h):Vw (az e size v n cs) v n cs:=by
 obtain⟨h,hl,⟨a,rfl,rfl,_⟩|⟨b,o,cap,pre,bR,rfl,hp,hn,hc,_⟩⟩:=h0
 ·exact⟨a,0,rfl,.inl (List.eq_nil_of_length_eq_zero (by simpa using hl))⟩
 ·refine⟨_,cap,rfl,.inr ⟨b,o,rfl,fun h hA j c hj=>?_⟩⟩
  obtain⟨_,⟨a,hv,_,_⟩|⟨b',o',gQ,aaE,rL,hv,sU,_,_,Ru⟩⟩:=hA
  ·simp only[Value.slice.injEq]at hv
   obtain⟨_,rfl,rfl⟩:=hv
   have:cs=[]:=List.eq_nil_of_length_eq_zero (by simpa using hl)
   subst this;simp at hj
  ·simp only[Value.slice.injEq,Option.some.injEq,Addr.mk.injEq,and_true,true_and]at hv
   obtain⟨⟨rfl,rfl⟩,rfl⟩:=hv
   unfold dm
   rw[Ru b,if_pos rfl]
   simp only[cl]
   rw[← sU]
   have cW:j<cs.length:=by
    rcases Nat.lt_or_ge j cs.length with h|h
    ·exact h
    ·rw[List.getElem?_eq_none h]at hj;cases hj
   rw[List.getElem?_toArray,List.append_assoc,List.getElem?_append_right ag,show aaE.length+j-aaE.length=j by omega,List.getElem?_append_left cW]
   exact hj
def Vw.ae{b:Nat}{l:List Value}{e:TypeId}{o n cap:Nat}{cs:List Value}(h:(l.drop o).take cs.length=cs):Vw (ae b (cl l e)) (.slice (some ⟨b,o,none⟩) n cap) n cs:=by
 refine⟨_,cap,rfl,.inr ⟨b,o,rfl,fun h' hA j c hj=>?_⟩⟩
 unfold dm
 rw[hA b,if_pos rfl]
 simp only[cl]
 rw[← h,List.getElem?_take]at hj
 split at hj
 ·simpa using hj
 ·cases hj
def Vw.nil(A:HP)(a:Option Addr)(cap:Nat):Vw A (.slice a 0 cap) 0 []:=⟨a,cap,rfl,.inl rfl⟩
def Vw.mono{A B:HP}{v:Value}{n:Nat}{cs:List Value}(h:Vw A v n cs)(X0:∀h,B h→∃h',sub h' h∧A h'):Vw B v n cs:=by
 obtain⟨a,cap,hv,h0|⟨b,o,ha,hc⟩⟩:=h
 ·exact⟨a,cap,hv,.inl h0⟩
 ·refine⟨a,cap,hv,.inr ⟨b,o,ha,fun h hB j c hj=>?_⟩⟩
  obtain⟨h',hs,hA⟩:=X0 h hB
  have:=hc h' hA j c hj
  unfold dm at this ⊢
  split at this
  ·rename_i x y z hb;rw[hs b _ hb];exact this
  ·cases this
def Vw.cells{A:HP}{v:Value}{n:Nat}{cs:List Value}(h:Vw A v n cs){G:cI}{w:World}{H:List HP}(hw:Sat G w H){i:Nat}(hi:cE H i=some A) :
  ∃a cap,v = .slice a n cap∧(cs=[]∨∃b o,a=some ⟨b,o,none⟩∧∀j c,cs[j]?=some c→w.cell? ⟨b,o+j,none⟩=some c):=by
 obtain⟨a,cap,hv,h0|⟨b,o,ha,hc⟩⟩:=h
 ·exact⟨a,cap,hv,.inl h0⟩
 ·obtain⟨h,hh,hA⟩:=hw.lj hi
  exact⟨a,cap,hv,.inr ⟨b,o,ha,fun j c hj=>dY hh (hc h hA j c hj)⟩⟩
def Addr.add_eq(b o i:Nat):(⟨b,o,none⟩:Addr).add i=⟨b,o+i,none⟩:=by
 unfold Addr.add;split
 ·rename_i h;subst h;rfl
 ·rfl
section
variable{P:Program}{U:Tr}[hU:fV P U]{f:FuncId}{n:Nat}{R:Ending→World→Prop}{G:cI}{k:List Item}{L:fD}{H H':List HP}{S:World→Prop}{all:Array Oper}{rest:Pl}{ty:TypeId}{pos:String}{af:Array Edge}{gd:Option (Nat × Bool)}{m:Bool}{d:Tmp}
def nK{A:HP}{v:Value}{nn size:Nat}{cs:List Value}{w:World}{i:Nat}(hv:Vw A v nn cs)(hw:Sat G w H)(hi:cE H i=some A)(hl:cs.length=nn*size) :
  (Builtin.firstCells size nn v).run P w = .ok cs.toArray w:=by
 obtain⟨a,cap,rfl,h0|⟨b,o,rfl,hc⟩⟩:=hv.cells hw hi
 ·subst h0
  have h0:nn*size=0:=by simpa using hl.symm
  cases a with
  | none=>simp[Builtin.firstCells]
  | some a=>simp[Builtin.firstCells,h0,loadCells,loadCellsFrom]
 ·have:=run_loadCells_list (P:=P) w ⟨b,o,none⟩ cs (fun j c hj=>by rw[Addr.add_eq];exact hc j c hj)
  rw[hl]at this
  simp[Builtin.firstCells,this]
def xN{A:HP}{v:Value}{nn size q:Nat}{cs:List Value}{w:World}{i:Nat}(hv:Vw A v nn cs)(hw:Sat G w H)(hi:cE H i=some A)(hl:cs.length=nn*size)(hq:q≤nn) :
  (Builtin.firstCells size q v).run P w = .ok (cs.take (q*size)).toArray w:=by
 obtain⟨a,cap,rfl,h0|⟨b,o,rfl,hc⟩⟩:=hv.cells hw hi
 ·subst h0
  have h0:nn*size=0:=by simpa using hl.symm
  have h1:q*size=0:=by have:=Nat.mul_le_mul_right size hq;omega
  cases a with
  | none=>simp[Builtin.firstCells]
  | some a=>simp[Builtin.firstCells,h1,loadCells,loadCellsFrom]
 ·have h2:(cs.take (q*size)).length=q*size:=by rw[List.length_take,hl];exact Nat.min_eq_left (Nat.mul_le_mul_right size hq)
  have:=run_loadCells_list (P:=P) w ⟨b,o,none⟩ (cs.take (q*size)) (fun j c hj=>by
   rw[Addr.add_eq]
   rw[List.getElem?_take]at hj
   split at hj
   ·exact hc j c hj
   ·cases hj)
  rw[h2]at this
  simp[Builtin.firstCells,this]
def QT(e:TypeId)(size:Nat)(a:Option Addr):∀h,emp h→az e size (.slice a 0 0) 0 [] h:=fun h he=>⟨by simp,.inl ⟨a,rfl,rfl,he⟩⟩
def uO(pre cs bR news:List Value)(o:Nat)(ho:pre.length=o) :
  (pre++cs++bR).take (o+cs.length)++news++(pre++cs++bR).drop (o+cs.length+news.length)=pre++(cs++news)++bR.drop news.length:=by
 subst ho
 have h1:(pre++cs++bR).take (pre.length+cs.length)=pre++cs:=by
  rw[show pre.length+cs.length=(pre++cs).length by simp];exact List.take_left
 have h2:(pre++cs++bR).drop (pre.length+cs.length+news.length)=bR.drop news.length:=by
  rw[show pre.length+cs.length=(pre++cs).length by simp];rw[List.drop_append];simp
 rw[h1,h2];simp
def GR{t t2 elem:TypeId}{bQ Ge te:Ty}{z v v2:Value}{nn mm:Nat}{cs news:List Value}{A:HP}{rty:TypeId}{w:World}(i j:Nat)(ht:U.get t=some bQ)(hu:bQ.gy = .slice elem)(h2:U.get t2=some Ge)(RX:∀q,Ge.gy ≠ .int q)(he:U.get elem=some te)(hz:te.info.zero=some z)(ML:(bo z).length=te.info.size)(hw:Sat G w H)(hi:cE H i=some (az elem te.info.size v nn cs))(hj:cE H j=some A)(ry:Vw A v2 mm news)(rA:news.length=mm*te.info.size)(gI:∀u∈news,u.oneCell'=true)(Lg:nn+mm≤9223372036854775807)(qi:(nn+mm)*te.info.bytes≤140737488355328) :
    ∃v' w',(Builtin.append_ #[t,t2] rty #[v,v2]).run P w = .ok v' w'∧(∀H',lL i (az elem te.info.size v' (nn+mm) (cs++news)) H [] = .mk H'→Sat G w' H'):=by
  have OQ:∀B H',lL i B H [] = .mk H'→H'.Perm (B::H.eraseIdx i):=fun B H' hp=>by simpa using oO i _ _ H [] H' hp hi
  have acZ:∃h,az elem te.info.size v nn cs h:=by obtain⟨h,_,hA⟩:=hw.lj hi;exact⟨h,hA⟩
  have dM:=Vw.oR _ _ _ _ _ acZ
  have Ck:=nK (P:=P) ry hw hj rA
  obtain⟨a2,c2,acM,_⟩:=ry
  subst acM
  have OK:=hw.cN (ao.perm (di (by rw[← dI];exact hi)))
  obtain⟨hT,hO,RS,hh,ef,h1,h2h,sF,hB2,abB,O4⟩:=OK
  obtain⟨hl,iJ⟩:=sF
  have u4:∀ {w:World},(underlying t2).run P w = .ok Ge.gy w:=fun {w}=>run_underlying h2 w
  have YL:(Ge.gy matches .int _)=false:=by
    cases hq:Ge.gy <;> first|rfl|exact absurd hq (RX _)
  have acg:=nK (P:=P) dM hw hi hl
  by_cases qe:∃a cap,v = .slice a nn cap∧nn+mm≤cap
  · obtain⟨a,cap,rfl,qe⟩:=qe
    rcases iJ with⟨a',hv,RA,EO⟩|⟨b,o,gQ,pre,bR,hv,hp,hn,hc,Ru⟩
    · simp only[Value.slice.injEq]at hv
      obtain⟨rfl,rfl,rfl⟩:=hv
      have zN:mm=0:=by omega
      subst zN
      have pE:cs=[]:=List.eq_nil_of_length_eq_zero (by simpa using hl)
      have aa6:news=[]:=List.eq_nil_of_length_eq_zero (by simpa using rA)
      subst pE;subst aa6
      refine⟨.slice a 0 0,w,?_,fun H' hp=>?_⟩
      · cases a with
        | none=>simp[Builtin.append_,run_underlying ht,hu,run_sizeOf he,u4,YL,Builtin.lenOf,Ck]
        | some a=>simp[Builtin.append_,run_underlying ht,hu,run_sizeOf he,u4,YL,Builtin.lenOf,Ck,storeCells]
      · refine(show Sat G w (az elem te.info.size (.slice a 0 0) 0 []::H.eraseIdx i)from ?_).cN (ao.perm (OQ _ _ hp).symm)
        exact⟨hT,hO,RS,hh,ef,h1,h2h,⟨hl,.inl ⟨a,rfl,rfl,EO⟩⟩,hB2,abB,O4⟩
    · simp only[Value.slice.injEq]at hv
      obtain⟨rfl,_,rfl⟩:=hv
      have yC:news.length≤bR.length:=by
        have h3:(nn+mm)*te.info.size≤cap*te.info.size:=Nat.mul_le_mul_right _ qe
        rw[Nat.add_mul,← hl,← rA]at h3
        omega
      have hb:w.heap[b]?=some (cl (pre++cs++bR) elem):=by
        refine ef b _ ?_
        rw[O4 b,Ru b];simp
      have cL:=gE (P:=P) news 0 (o+nn*te.info.size) (pre++cs++bR) w hb (by simp;omega) gI
      simp only[Nat.add_zero]at cL
      rw[← hl,uO pre cs bR news o hp]at cL
      refine⟨.slice (some ⟨b,o,none⟩) (nn+mm) cap,{ w with heap:=w.heap.setIfInBounds b (cl (pre++(cs++news)++bR.drop news.length) elem) },?_,fun H' sU=>?_⟩
      · rw[hl]at cL
        simp[Builtin.append_,run_underlying ht,hu,run_sizeOf he,u4,YL,Builtin.lenOf,qe,Ck,Addr.add_eq,cL]
      · have h4:=Sat.BQ (o':=cl (pre++(cs++news)++bR.drop news.length) elem) (show Sat G w (ae b (cl (pre++cs++bR) elem)::H.eraseIdx i)from⟨hT,hO,RS,hh,ef,h1,h2h,Ru,hB2,abB,O4⟩)
        refine(h4.cN ?_).cN (ao.perm (OQ _ _ sU).symm)
        refine ao.fold (B:=[_]) fun h hs=>⟨h,sub.refl h,?_⟩
        refine⟨by simp[hl,rA,Nat.add_mul],.inr ⟨b,o,cap,pre,_,rfl,hp,qe,?_,eU hs⟩⟩
        simp;omega
  · have hvs:∃a cap,v = .slice a nn cap:=by obtain⟨a,cap,hv,_⟩:=dM;exact⟨a,cap,hv⟩
    obtain⟨a,cap,rfl⟩:=hvs
    have QC:¬nn+mm≤cap:=fun h=>qe ⟨a,cap,rfl,h⟩
    have hgs:=growslice_fits (need:=nn+mm) (old:=cap) (bytes:=te.info.bytes) ag qi
    have fg:=grownCap_ge w (nn+mm) cap elem
    have hzc:z.cells=(bo z).toArray:=dP z
    refine⟨.slice (some ⟨w.heap.size,0,none⟩) (nn+mm) (grownCap w (nn+mm) cap elem),w.drew.alloc (cl (cs++news++(Builtin.zeroCells z.cells (grownCap w (nn+mm) cap elem-(nn+mm))).toList) elem),?_,fun H' sU=>?_⟩
    · have Li:=nK (P:=P) (G:=G) (w:=w.drew) dM (hw.draw _) hi hl
      have adr:=nK (P:=P) (G:=G) (w:=w.drew) ⟨a2,c2,rfl,by assumption⟩ (hw.draw _) hj rA
      have Hw:¬((9223372036854775807:Int)<(nn:Int)+(mm:Int)):=by omega
      have XB:¬281474976710656<Builtin.nextslicecap (nn+mm) cap*te.info.bytes:=by omega
      simp[Builtin.append_,run_underlying ht,hu,run_sizeOf he,u4,YL,Builtin.lenOf,QC,Hw,XB,Question.forced,run_typeInfo he,dX he hz,newRow,Li,adr,grownCap,cl]
      congr 2
      apply Array.ext'
      simp
    · have h5 : Sat G (w.drew.alloc (cl (cs ++ news ++ (Builtin.zeroCells z.cells (grownCap w (nn + mm) cap elem - (nn + mm))).toList) elem))
          (ae w.heap.size (cl (cs++news++(Builtin.zeroCells z.cells (grownCap w (nn+mm) cap elem-(nn+mm))).toList) elem)::H.eraseIdx i):=by
        have h6:Sat G w (H.eraseIdx i):=(hw.cN (ao.perm (di (by rw[← dI];exact hi)))).cN (ao.drop _ _)
        exact Sat.alloc (w:=w.drew) (h6.draw _) _
      refine(h5.cN ?_).cN (ao.perm (OQ _ _ sU).symm)
      refine ao.fold (B:=[_]) fun h hs=>⟨h,sub.refl h,?_⟩
      refine⟨by simp[hl,rA,Nat.add_mul],.inr ⟨w.heap.size,0,_,[],_,rfl,rfl,fg,?_,by simpa using eU hs⟩⟩
      have h7:(Builtin.zeroCells z.cells (grownCap w (nn+mm) cap elem-(nn+mm))).size=(grownCap w (nn+mm) cap elem-(nn+mm))*te.info.size:=by rw[size_zeroCells,hzc];simp[ML]
      rw[List.length_append,hl,rA,Array.length_toList,h7,← Nat.add_mul,← Nat.add_mul]
      exact Nat.le_of_eq (by congr 1;omega)
def Qh{x y:Operand}{t t2 elem:TypeId}{bQ Ge te:Ty}{z v v2:Value}{nn mm:Nat}{cs news:List Value}{A:HP}(i j:Nat)(hd:Nat.blt d n=true)(hx:ev L x=some v)(hy:ev L y=some v2)(ht:U.get t=some bQ)(hu:bQ.gy = .slice elem)(h2:U.get t2=some Ge)(RX:(match Ge.gy with | .int _=>false|_=>true)=true)(he:U.get elem=some te)(hz:te.info.zero=some z)(ML:Nat.beq (bo z).length te.info.size=true)(hi:cE H i=some (az elem te.info.size v nn cs))(hj:cE H j=some A)(ry:Vw A v2 mm news)(rA:news.length=mm*te.info.size)(gI:∀u∈news,u.oneCell'=true)(Lg:nn+mm≤9223372036854775807)(qi:(nn+mm)*te.info.bytes≤140737488355328){Hf:Value→List HP}(hp:∀v',lL i (az elem te.info.size v' (nn+mm) (cs++news)) H [] = .mk (Hf v'))(hS:∀v' w,Sat G w (Hf v')→Sx rest S w)(h:∀v',J P f n R G S all rest k ((d,v')::L) (Hf v')) :
  J P f n R G S all (.cons false true ⟨some d,.call { callee := .builtin .append,args := #[x,y],argTypes := #[t,t2] },ty,pos,af,gd⟩ rest) k L H:=by
 refine oy hd (fun u H1=>H1=Hf u) (fun a w ha hw=>?_) ?_ ?_
 ·obtain⟨v',w',hr,hs⟩:=GR (P:=P) (rty:=ty) i j ht hu h2 (fun q e=>by rw[e]at RX;cases RX) he hz (Nat.eq_of_beq_eq_true ML) hw hi hj ry rA gI Lg qi
  refine⟨v',w',_,?_,rfl,hs _ (hp v')⟩
  simp[execOp,resolve,invoke,builtin,ha.ev hx,ha.ev hy,hr]
 ·rintro u H1 w rfl hw;exact hS u w hw
 ·rintro u H1 rfl;exact h u
def Qf{x y:Operand}{t t2 elem:TypeId}{bQ te:Ty}{v2:Value}{b o dl dc mm:Nat}{l src l':List Value}{e:TypeId}{A:HP}(i j:Nat)(hd:Nat.blt d n=true)(hx:ev L x=some (.slice (some ⟨b,o,none⟩) dl dc))(hy:ev L y=some v2)(ht:U.get t=some bQ)(hu:bQ.gy = .slice elem)(he:U.get elem=some te)(hi:cE H i=some (ae b (cl l e)))(hj:cE H j=some A)(ry:Vw A v2 mm src)(rA:src.length=mm*te.info.size)(gI:∀u∈src,u.oneCell'=true)(yC:o+(min mm dl)*te.info.size≤l.length)(RC:l'=l.take o++src.take (min mm dl*te.info.size)++l.drop (o+min mm dl*te.info.size))(hp:lL i (ae b (cl l' e)) H [] = .mk H')(hS:∀w,Sat G w H'→Sx rest S w)(h:J P f n R G S all rest k ((d,.int .i64 (min mm dl:Nat))::L) H') :
  J P f n R G S all (.cons false true ⟨some d,.call { callee := .builtin .copy,args := #[x,y],argTypes := #[t,t2] },ty,pos,af,gd⟩ rest) k L H:=by
 refine oy hd (fun u H1=>u = .int .i64 (min mm dl:Nat)∧H1=H') (fun a w ha hw=>?_) ?_ ?_
 ·have hf:=xN (P:=P) (q:=min mm dl) ry hw hj rA (Nat.min_le_left _ _)
  obtain⟨a2,c2,hv',_⟩:=ry
  subst hv'
  have h3:(src.take (min mm dl*te.info.size)).length=min mm dl*te.info.size:=by rw[List.length_take,rA];exact Nat.min_eq_left (Nat.mul_le_mul_right _ (Nat.min_le_left _ _))
  have cL:=gE (P:=P) (src.take (min mm dl*te.info.size)) 0 o l w (hw.tS hi) (by rw[h3];simpa using yC) (fun u hu=>gI u (List.mem_of_mem_take hu))
  simp only[Nat.add_zero,h3,← RC]at cL
  refine⟨_,_,H',?_,⟨rfl,rfl⟩,hw.put hi hp⟩
  simp only[execOp,resolve,invoke,builtin,Sem.run_bind,Sem.run_pure,Result.andThen_ok,List.map_toArray,List.map_cons,List.map_nil,ha.ev hx,ha.ev hy,Builtin.copy_,List.getElem?_toArray,List.getElem?_cons_zero,List.getElem?_cons_succ,
   run_underlying ht,hu,Builtin.lenOf,run_sizeOf he]
  rw[show Nat.min mm dl=min mm dl from rfl]
  simp only[hf,Result.andThen_ok,cL,goInt]
 ·rintro u H1 w⟨rfl,rfl⟩ hw;exact hS w hw
 ·rintro u H1⟨rfl,rfl⟩;exact h
def FR{x y:Operand}{t elem:TypeId}{bQ te:Ty}{z:Value}{p q:Nat}(hd:Nat.blt d n=true)(hx:ev L x=some (.int .i64 (p:Int)))(hy:ev L y=some (.int .i64 (q:Int)))(ht:U.get t=some bQ)(hu:bQ.gy = .slice elem)(he:U.get elem=some te)(hz:te.info.zero=some z)(ML:Nat.beq (bo z).length 1=true)(acz:Nat.beq te.info.size 1=true)(ED:p≤q)(Lg:q≤9223372036854775807)(qi:te.info.bytes*q≤281474976710656)(hS:∀b w,Sat G w (ae b (cl (List.replicate q ((bo z).headD undef)) elem)::H)→Sx rest S w)(h:∀b,J P f n R G S all rest k ((d,.slice (some ⟨b,0,none⟩) p q)::L) (ae b (cl (List.replicate q ((bo z).headD undef)) elem)::H)) :
  J P f n R G S all (.cons false true ⟨some d,.makeSlice t x y,ty,pos,af,gd⟩ rest) k L H:=by
 refine oy hd (fun u H1=>∃b,u = .slice (some ⟨b,0,none⟩) p q∧H1=ae b (cl (List.replicate q ((bo z).headD undef)) elem)::H) (fun a w ha hw=>?_) ?_ ?_
 ·refine⟨_,_,_,?_,⟨w.heap.size,rfl,rfl⟩,hw.alloc _⟩
  have h1:te.info.size=1:=Nat.eq_of_beq_eq_true acz
  have h2:(bo z).length=1:=Nat.eq_of_beq_eq_true ML
  obtain⟨u,SR⟩:∃u,bo z=[u]:=List.length_eq_one_iff.1 h2
  have wq:IntKind.i64.wrap (q:Int)=q:=cQ (by simp only[gn];omega)
  have wp:IntKind.i64.wrap (p:Int)=p:=cQ (by simp only[gn];omega)
  have hb:¬((281474976710656:Int)<(te.info.bytes:Int)*(q:Int)):=by omega
  have ac6:¬((q:Int)<(p:Int)):=by omega
  have HD:z.cells = #[u]:=by rw[dP,SR]
  have hq0:¬((q:Int)<0):=by omega
  have Jl:¬((p:Int)<0):=by omega
  by_cases h0:q=0
  ·subst h0
   have ac':p=0:=by omega
   subst ac'
   have w0:IntKind.i64.wrap 0=0:=cQ (by simp only[gn];omega)
   simp[execOp,ha.ev hx,ha.ev hy,Instr.makeSlice,run_underlying ht,hu,asInt,asIntOf,run_typeInfo he,w0,run_sizeOf he,h1,newRow,cl]
   congr 2
   apply Array.ext'
   simp
  ·have pE:(Array.range q).map (fun i=>(#[u]:Array Value)[i%(#[u]:Array Value).size]!)=(List.replicate q u).toArray:=by
    apply Array.ext'
    simp only[Array.toList_map,Array.toList_range]
    apply List.ext_getElem?
    intro j
    by_cases hj:j<q
    ·simp[hj,List.getElem?_replicate,Nat.mod_one]
    ·simp[List.getElem?_eq_none,Nat.le_of_not_lt hj]
   have iR:(Instr.makeSlice t (.int .i64 (p:Int)) (.int .i64 (q:Int))).run P w = .ok (.slice (some ⟨w.heap.size,0,none⟩) p q) { w with heap:=w.heap.push (.cells (List.replicate q u).toArray elem) }:=by
    unfold Instr.makeSlice
    simp only[Sem.run_bind,run_underlying ht,Result.andThen_ok,hu,asInt,asIntOf,Sem.run_pure,run_typeInfo he,wp,wq]
    rw[if_neg (by simp[hb,ac6])]
    simp only[pure_bind,Sem.run_bind,run_askRoom,Result.andThen_ok,run_sizeOf he,h1,Nat.mul_one,Int.toNat_natCast,h0,if_false,dX he hz,Sem.run_pure,HD,pE,newRow,run_newObj]
   simp only[execOp,ha.ev hx,ha.ev hy,Sem.run_bind,iR,Result.andThen_ok,Sem.run_pure,SR,List.headD_cons,cl]
 ·rintro u H1 w⟨b,rfl,rfl⟩ hw;exact hS b w hw
 ·rintro u H1⟨b,rfl,rfl⟩;exact h b
def KZ(L:fD):Option Operand→Option Int
 | none=>some 0
 | some x=>match ev L x with
  | some (.int _ l)=>some l
  | _=>none
def A7(L:fD)(len:Nat):Option Operand→Option Int
 | none=>some (len:Int)
 | some x=>match ev L x with
  | some (.int _ l)=>some l
  | _=>none
def sk{lo hi:Option Operand}{len cap:Nat}{p q:Int}{a:Act}{w:World}(isSlice:Bool)(ha:Has n L a)(AZ:KZ L lo=some p)(Gl:A7 L len hi=some q)(h0:0≤p)(ED:p≤q)(Xd:hi=none∨q≤(cap:Int)) :
  (Instr.sliceBounds isSlice len cap (lo.map a.eval) (hi.map a.eval) none).run P w = .ok (p.toNat,q.toNat,cap) w:=by
 have hh:(match hi.map a.eval with|some v=>Instr.sliceBound v cap (if isSlice then .sliceAcap else .sliceAlen)|none=>pure len:Sem Nat).run P w = .ok q.toNat w:=by
  cases hi with
  | none=>simp only[A7,Option.some.injEq]at Gl;subst Gl;simp
  | some x =>
   simp only[A7]at Gl
   split at Gl
   ·rename_i j l hx
    cases Gl
    simp only[Option.map_some,ha.ev hx,Instr.sliceBound,asIntOf,Sem.run_bind,Sem.run_pure,Result.andThen_ok]
    rw[if_pos ⟨ag,Xd.resolve_left (by simp)⟩];rfl
   ·cases Gl
 have hl:(match lo.map a.eval with|some v=>Instr.sliceBound v q.toNat .sliceB|none=>pure 0:Sem Nat).run P w = .ok p.toNat w:=by
  cases lo with
  | none=>simp only[KZ,Option.some.injEq]at AZ;subst AZ;simp
  | some x =>
   simp only[KZ]at AZ
   split at AZ
   ·rename_i j l hx
    cases AZ
    simp only[Option.map_some,ha.ev hx,Instr.sliceBound,asIntOf,Sem.run_bind,Sem.run_pure,Result.andThen_ok]
    rw[if_pos ⟨h0,ag⟩];rfl
   ·cases AZ
 unfold Instr.sliceBounds
 cases hi with
 | none =>
  cases lo with
  | none=>simp at hh hl ⊢;exact⟨hl.symm ▸ rfl,hh⟩
  | some x=>simp at hh hl ⊢;simp[hl,hh]
 | some y =>
  cases lo with
  | none=>simp at hh hl ⊢;simp[hl,hh]
  | some x=>simp at hh hl ⊢;simp[hl,hh]
def Ss{t elem:TypeId}{bQ te:Ty}{x:Operand}{lo hi:Option Operand}{b o len cap:Nat}{p q:Int}(hd:Nat.blt d n=true)(ht:U.get t=some bQ)(hu:bQ.gy = .slice elem)(he:U.get elem=some te)(hx:ev L x=some (.slice (some ⟨b,o,none⟩) len cap))(AZ:KZ L lo=some p)(Gl:A7 L len hi=some q)(h0:0≤p)(ED:p≤q)(Xd:hi=none∨q≤(cap:Int))(h:∀o',(p.toNat≠cap→o'=o+p.toNat*te.info.size)→(p.toNat=cap→o'=o)→J P f n R G S all rest k ((d,.slice (some ⟨b,o',none⟩) (q.toNat-p.toNat) (cap-p.toNat))::L) H) :
  J P f n R G S all (.cons m true ⟨some d,.slice t x lo hi none,ty,pos,af,gd⟩ rest) k L H:=by
 refine du hd (v := .slice (some ⟨b,if p.toNat=cap then o else o+p.toNat*te.info.size,none⟩) (q.toNat-p.toNat) (cap-p.toNat)) (fun a ha w=>?_) (h _ (fun e=>if_neg e) (fun e=>if_pos e))
 have hr:=sk (P:=P) (w:=w) true ha AZ Gl h0 ED Xd
 simp only[execOp,ha.ev hx,Instr.sliceAt,Sem.run_bind,run_underlying ht,Result.andThen_ok,hu,Instr.slice,Option.map_none,hr,run_sizeOf he,Sem.run_pure]
 by_cases hc:p.toNat=cap
 ·simp[hc]
 ·simp only[if_neg hc,if_neg (Ne.symm hc),Option.map_some,Addr.add_eq]
def sliceAt(a0:Option Addr)(cap p size:Nat):Option Addr:=if p=cap then a0 else a0.map fun a=>a.add (p*size)
def Ip{t elem:TypeId}{bQ te:Ty}{x:Operand}{lo hi:Option Operand}{a0:Option Addr}{len cap:Nat}{p q:Int}(hd:Nat.blt d n=true)(ht:U.get t=some bQ)(hu:bQ.gy = .slice elem)(he:U.get elem=some te)(hx:ev L x=some (.slice a0 len cap))(AZ:KZ L lo=some p)(Gl:A7 L len hi=some q)(h0:0≤p)(ED:p≤q)(Xd:hi=none∨q≤(cap:Int))(h:J P f n R G S all rest k ((d,.slice (sliceAt a0 cap p.toNat te.info.size) (q.toNat-p.toNat) (cap-p.toNat))::L) H) :
  J P f n R G S all (.cons m true ⟨some d,.slice t x lo hi none,ty,pos,af,gd⟩ rest) k L H:=by
 refine du hd (fun a ha w=>?_) h
 have hr:=sk (P:=P) (w:=w) true ha AZ Gl h0 ED Xd
 simp only[execOp,ha.ev hx,Instr.sliceAt,Sem.run_bind,run_underlying ht,Result.andThen_ok,hu,Instr.slice,Option.map_none,hr,run_sizeOf he,Sem.run_pure,sliceAt]
 by_cases hc:p.toNat=cap
 ·simp[hc]
 ·simp only[if_neg (Ne.symm hc),if_neg hc]
def zz{t:TypeId}{bQ:Ty}{x:Operand}{lo hi:Option Operand}{s:ByteArray}{p q:Int}(hd:Nat.blt d n=true)(ht:U.get t=some bQ)(hu:bQ.gy = .string)(hx:ev L x=some (.string s))(AZ:KZ L lo=some p)(Gl:A7 L s.size hi=some q)(h0:0≤p)(ED:p≤q)(Xd:q≤(s.size:Int))(h:J P f n R G S all rest k ((d,.string (s.extract p.toNat q.toNat))::L) H) :
  J P f n R G S all (.cons m true ⟨some d,.slice t x lo hi none,ty,pos,af,gd⟩ rest) k L H:=by
 refine du hd (fun a ha w=>?_) h
 have hr:=sk (P:=P) (w:=w) false ha AZ Gl h0 ED (.inr Xd)
 simp only[execOp,ha.ev hx,Instr.sliceAt,Sem.run_bind,run_underlying ht,Result.andThen_ok,hu,Instr.slice,Option.map_none,hr,Option.isSome_none,Bool.false_eq_true,if_false,Sem.run_pure]
def FT{t elem:TypeId}{bQ te:Ty}{x y:Operand}{j:IntKind}{b o len cap:Nat}{p:Int}(hd:Nat.blt d n=true)(ht:U.get t=some bQ)(hu:bQ.gy = .slice elem)(he:U.get elem=some te)(hx:ev L x=some (.slice (some ⟨b,o,none⟩) len cap))(hy:ev L y=some (.int j p))(h0:0≤p)(hp:p<(len:Int))(h:J P f n R G S all rest k ((d,.pointer (some ⟨b,o+p.toNat*te.info.size,none⟩))::L) H) :
  J P f n R G S all (.cons m true ⟨some d,.indexAddr t x y,ty,pos,af,gd⟩ rest) k L H:=by
 refine du hd (fun a ha w=>?_) h
 simp only[execOp,ha.ev hx,ha.ev hy,Instr.indexAt,asIntOf,Sem.run_bind,Sem.run_pure,run_underlying ht,Result.andThen_ok,hu]
 rw[if_pos ⟨h0,hp⟩]
 simp only[Sem.run_bind,run_sizeOf he,Result.andThen_ok,Sem.run_pure,Addr.add_eq]
def ace{t elem:TypeId}{bQ te:Ty}{x y:Operand}{j:IntKind}{b o len cap:Nat}{p:Int}(q sz:Nat)(hd:Nat.blt d n=true)(ht:U.get t=some bQ)(hu:bQ.gy = .slice elem)(he:U.get elem=some te)(hs:te.info.size=sz)(hx:ev L x=some (.slice (some ⟨b,o,none⟩) len cap))(hy:ev L y=some (.int j p))(hq:p=(q:Int))(cW:q<len)(h:J P f n R G S all rest k ((d,.pointer (some ⟨b,o+q*sz,none⟩))::L) H) :
  J P f n R G S all (.cons m true ⟨some d,.indexAddr t x y,ty,pos,af,gd⟩ rest) k L H:=by
 subst hq;subst hs
 exact FT hd ht hu he hx hy ag ag (by simpa using h)
def acd{t elem:TypeId}{bQ te:Ty}{x y:Operand}{j:IntKind}{b o len cap:Nat}{p:Int}(q:Nat)(hd:Nat.blt d n=true)(ht:U.get t=some bQ)(hu:bQ.gy = .slice elem)(he:U.get elem=some te)(hs:te.info.size=1)(hx:ev L x=some (.slice (some ⟨b,o,none⟩) len cap))(hy:ev L y=some (.int j p))(hq:p=(q:Int))(cW:q<len)(h:J P f n R G S all rest k ((d,.pointer (some ⟨b,o+q,none⟩))::L) H) :
  J P f n R G S all (.cons m true ⟨some d,.indexAddr t x y,ty,pos,af,gd⟩ rest) k L H :=
 ace q 1 hd ht hu he hs hx hy hq cW (by simpa using h)
def zC{t elem:TypeId}{bQ te:Ty}{x y:Operand}{j:IntKind}{b o len:Nat}{p:Int}(hd:Nat.blt d n=true)(ht:U.get t=some bQ)(hu:bQ.gy = .array len elem)(he:U.get elem=some te)(hx:ev L x=some (.pointer (some ⟨b,o,none⟩)))(hy:ev L y=some (.int j p))(h0:0≤p)(hp:p<(len:Int))(h:J P f n R G S all rest k ((d,.pointer (some ⟨b,o+p.toNat*te.info.size,none⟩))::L) H) :
  J P f n R G S all (.cons m true ⟨some d,.indexAddr t x y,ty,pos,af,gd⟩ rest) k L H:=by
 refine du hd (fun a ha w=>?_) h
 simp only[execOp,ha.ev hx,ha.ev hy,Instr.indexAt,asIntOf,Sem.run_bind,Sem.run_pure,run_underlying ht,Result.andThen_ok,hu,Instr.sureAddr]
 rw[if_pos ⟨h0,hp⟩]
 simp only[Sem.run_bind,run_sizeOf he,Result.andThen_ok,Sem.run_pure,Addr.add_eq]
def vo(s:ByteArray)(i:Nat):UInt8:=s.data.toList.getD i 0
def sO{t:TypeId}{bQ:Ty}{x y:Operand}{j:IntKind}{s:ByteArray}{p:Int}(hd:Nat.blt d n=true)(ht:U.get t=some bQ)(hu:bQ.gy = .string)(hx:ev L x=some (.string s))(hy:ev L y=some (.int j p))(h0:0≤p)(hp:p<(s.size:Int))(h:J P f n R G S all rest k ((d,.int .u8 ((vo s p.toNat).toNat:Int))::L) H) :
  J P f n R G S all (.cons m true ⟨some d,.index t x y,ty,pos,af,gd⟩ rest) k L H:=by
 refine du hd (fun a ha w=>?_) h
 have cW:p.toNat<s.size:=by omega
 have hb:s[p.toNat]?=some (vo s p.toNat):=by
  have h1:p.toNat<s.data.size:=cW
  have h2:s[p.toNat]?=some s[p.toNat]:=by simp[cW]
  rw[h2]
  congr 1
  unfold vo
  rw[List.getD_eq_getElem?_getD,Array.getElem?_toList,Array.getElem?_eq_getElem h1]
  rfl
 simp[execOp,ha.ev hx,ha.ev hy,Instr.index,asIntOf,run_underlying ht,hu,h0,hb]
def zD{t elem:TypeId}{bQ te:Ty}{x y:Operand}{j:IntKind}{cs:Array Value}{len:Nat}{p:Int}{v:Value}(hd:Nat.blt d n=true)(ht:U.get t=some bQ)(hu:bQ.gy = .array len elem)(he:U.get elem=some te)(hg:te.isAgg=false)(h1:Nat.beq te.info.size 1=true)(hx:ev L x=some (.agg cs))(hy:ev L y=some (.int j p))(h0:0≤p)(hp:p<(len:Int))(hv:cs.toList[p.toNat]?=some v)(h:J P f n R G S all rest k ((d,v)::L) H) :
  J P f n R G S all (.cons m true ⟨some d,.index t x y,ty,pos,af,gd⟩ rest) k L H:=by
 refine du hd (fun a ha w=>?_) h
 have hv':cs[p.toNat]?=some v:=by simpa using hv
 have h1':te.info.size=1:=Nat.eq_of_beq_eq_true h1
 simp[execOp,ha.ev hx,ha.ev hy,Instr.index,asIntOf,run_underlying ht,hu,h0,hp,run_sizeOf he,h1',part,qL he,hg,hv']
def ur{t:TypeId}{x:Operand}{b off:Nat}{bQ:Ty}{v:Value}{A:HP}(i:Nat)(hd:Nat.blt d n=true)(hx:ev L x=some (.pointer (some ⟨b,off,none⟩)))(hi:cE H i=some A)(hv:∀h,A h→dm h b off=some v)(ht:U.get t=some bQ)(hg:bQ.isAgg=false)(h:J P f n R G S all rest k ((d,v)::L) H):J P f n R G S all (.cons false true ⟨some d,.load t x,ty,pos,af,gd⟩ rest) k L H :=
 xg hd hx (fun w hw=>by
  obtain⟨h,hh,hA⟩:=hw.lj hi
  exact dY hh (hv h hA)) ht hg h
def u8(x:UInt8):Value := .int .u8 (x.toNat:Int)
def bV(bs:List UInt8):List Value:=bs.map u8
def bt(bs:List UInt8):(bV bs).length=bs.length:=by simp[bV]
def cO(bs:List UInt8):∀u∈bV bs,u.oneCell'=true:=by
 intro u hu
 simp only[bV,List.mem_map]at hu
 obtain⟨x,_,rfl⟩:=hu
 rfl
def foldl_push(bs:List UInt8):∀s:ByteArray,(bs.map fun x=>(x.toNat:Int)).foldl (fun r n=>r.push (UInt8.ofNat n.toNat)) s=⟨(s.data.toList++bs).toArray⟩:=by
 induction bs with
 | nil=>intro s;simp
 | cons x l ih =>
  intro s
  simp only[List.map_cons,List.foldl_cons,ih]
  simp[ByteArray.push]
def strOf(bs:List UInt8):ByteArray:=⟨bs.toArray⟩
def xE(s:ByteArray):strOf s.data.toList=s:=by simp[strOf]
def Aw{a b:List UInt8}:strOf a=strOf b↔a=b:=by
 constructor
 ·intro h;have:=congrArg (fun s:ByteArray=>s.data.toList) h;simpa[strOf]using this
 ·rintro rfl;rfl
def vg{a b:List UInt8}:Tu (strOf a) (strOf b)=decide (a=b):=by
 rw[Bool.eq_iff_iff,R7,Aw];simp
def CX{src dst e:TypeId}{ts td te:Ty}{x:Operand}{v:Value}{A:HP}{bs:List UInt8}(i:Nat)(hd:Nat.blt d n=true)(hx:ev L x=some v)(hs:U.get src=some ts)(Ey:ts.gy = .slice e)(he:U.get e=some te)(RL:te.gy = .int .u8)(ES:U.get dst=some td)(ER:td.gy = .string)(hi:cE H i=some A)(hv:Vw A v bs.length (bV bs))(h:J P f n R G S all rest k ((d,.string (strOf bs))::L) H):J P f n R G S all (.cons false true ⟨some d,.convert src dst x,ty,pos,af,gd⟩ rest) k L H:=by
 refine kL hd (fun a w ha hw=>?_) h
 obtain⟨a0,cap,rfl,h0|⟨b,o,rfl,hc⟩⟩:=hv.cells hw hi
 ·have hb:bs=[]:=by simpa[bV]using h0
  subst hb
  cases a0 with
  | none =>
   simp only[execOp,ha.ev hx,Sem.run_bind]
   rw[run_convert_bytes_string w src dst e _ _ _ (by rw[fF (P:=P) hs,Ey]) (by rw[fF (P:=P) he,RL]) (by rw[fF (P:=P) ES,ER])]
   simp[Conv.bytesToString,strOf]
   rfl
  | some a1 =>
   simp only[execOp,ha.ev hx,Sem.run_bind]
   rw[run_convert_bytes_string w src dst e _ _ _ (by rw[fF (P:=P) hs,Ey]) (by rw[fF (P:=P) he,RL]) (by rw[fF (P:=P) ES,ER])]
   rw[run_bytesToString w a1 _ _ [] (by simp[loadCells,loadCellsFrom])]
   simp[strOf]
   rfl
 ·have h1:=run_loadCells_list (P:=P) w ⟨b,o,none⟩ (bV bs) (fun j c hj=>by rw[Addr.add_eq];exact hc j c hj)
  rw[bt]at h1
  simp only[execOp,ha.ev hx,Sem.run_bind]
  rw[run_convert_bytes_string w src dst e _ _ _ (by rw[fF (P:=P) hs,Ey]) (by rw[fF (P:=P) he,RL]) (by rw[fF (P:=P) ES,ER])]
  rw[run_bytesToString w _ _ _ (bs.map fun x=>(x.toNat:Int)) (by rw[h1];simp[bV,u8]),foldl_push]
  simp[strOf]
def bj(b:Nat)(s:ByteArray)(e:TypeId)(cap:Nat):HP:=ae b (.cells (bytesRow s cap) e ((bytesRow s cap).size,(bytesRow s cap).size+1))
def GK(b:Nat)(s:ByteArray)(e:TypeId)(cap gQ:Nat):Vw (bj b s e cap) (.slice (some ⟨b,0,none⟩) s.size gQ) s.size (bV s.data.toList):=by
 refine⟨_,gQ,rfl,.inr ⟨b,0,rfl,fun h hA j c hj=>?_⟩⟩
 unfold dm
 rw[hA b,if_pos rfl]
 simp only[bytesRow,Nat.zero_add]
 have cW:j<s.data.size:=by
  rcases Nat.lt_or_ge j s.data.size with h|h
  ·exact h
  ·rw[bV,List.getElem?_eq_none (by simpa using h)]at hj;cases hj
 simp only[bV]at hj
 rw[Array.getElem?_append_left (by simpa using cW)]
 simpa[cW,u8]using hj
def Mn{src dst e:TypeId}{ts td te:Ty}{x:Operand}{s:ByteArray}(hd:Nat.blt d n=true)(hx:ev L x=some (.string s))(hs:U.get src=some ts)(Ey:ts.gy = .string)(ES:U.get dst=some td)(ER:td.gy = .slice e)(he:U.get e=some te)(RL:te.gy = .int .u8)(hS:∀b cap w,Sat G w (bj b s e cap::H)→Sx rest S w)(h:∀b cap,J P f n R G S all rest k ((d,.slice (some ⟨b,0,none⟩) s.size cap)::L) (bj b s e cap::H)):J P f n R G S all (.cons false true ⟨some d,.convert src dst x,ty,pos,af,gd⟩ rest) k L H:=by
 refine oy hd (fun u H1=>∃b cap,u = .slice (some ⟨b,0,none⟩) s.size cap∧H1=bj b s e cap::H) (fun a w ha hw=>?_) ?_ ?_
 ·refine⟨_,w.drew.alloc (.cells (bytesRow s (grownCap w s.size 0 e)) e ((bytesRow s (grownCap w s.size 0 e)).size,(bytesRow s (grownCap w s.size 0 e)).size+1)),_,?_,⟨w.heap.size,grownCap w s.size 0 e,rfl,rfl⟩,?_⟩
  ·have:=run_bytes_of_string (P:=P) w src dst e s (by rw[fF (P:=P) hs,Ey]) (by rw[fF (P:=P) ES,ER]) (by rw[fF (P:=P) he,RL])
   simp only[execOp,ha.ev hx,Sem.run_bind,this,Result.andThen_ok,Sem.run_pure]
  ·exact Sat.alloc (w:=w.drew) (hw.draw _) _
 ·rintro u H1 w⟨b,cap,rfl,rfl⟩ hw;exact hS b cap w hw
 ·rintro u H1⟨b,cap,rfl,rfl⟩;exact h b cap
end
end Go.SL
namespace Go.SL
structure mI(P:Program)(kt:TypeId){κ:Type}(kv:κ→Value):Prop where
 inj:∀a b,kv a=kv b→a=b
 check:∀(e:Bool) (k:κ) (w:World),(Instr.checkKey e 10000 kt (kv k)).run P w = .ok () w
 find:∀(k:κ) (l:List MapEntry) (ks:List κ) (w:World),l.map (·.key)=ks.map kv →
  ∃r,(Instr.findKey kt (kv k) l).run P w = .ok r w ∧
   ((r=none∧k ∉ ks)∨∃i e,r=some (i,e.val)∧l[i]?=some e∧ks[i]?=some k∧∀j,j<i→ks[j]? ≠ some k)
 bits:∀k,Instr.sameBits 10000 (kv k) (kv k)=true
def findNow_spec{κ:Type}{kv:κ→Value}{kind:TypeDesc}[DecidableEq κ](hs:∀a b,Instr.sameNow kind (kv a) (kv b)=some (decide (a=b)))(k:κ) :
  ∀(l:List MapEntry) (ks:List κ) (o:Nat),l.map (·.key)=ks.map kv →
   ∃r,Instr.findNow kind (kv k) l o=some r∧((r=none∧k ∉ ks)∨∃i e,r=some (o+i,e.val)∧l[i]?=some e∧ks[i]?=some k∧∀j,j<i→ks[j]? ≠ some k):=by
 intro l
 induction l with
 | nil =>
  intro ks o h
  have:ks=[]:=by simpa using h.symm
  subst this
  exact⟨none,rfl,.inl ⟨rfl,by simp⟩⟩
 | cons e l ih =>
  intro ks o h
  cases ks with
  | nil=>simp at h
  | cons c ks =>
   simp only[List.map_cons,List.cons.injEq]at h
   obtain⟨h1,h2⟩:=h
   simp only[Instr.findNow,h1,hs]
   by_cases MQ:k=c
   ·subst MQ
    refine⟨_,by simp;rfl,.inr ⟨0,e,by simp,by simp,by simp,fun j hj=>absurd hj ag⟩⟩
   ·obtain⟨r,hr,iJ⟩:=ih ks (o+1) h2
    refine⟨r,by simp[MQ,hr],?_⟩
    rcases iJ with⟨rfl,hn⟩|⟨i,e',rfl,hi,hk,hj⟩
    ·exact .inl ⟨rfl,by simp[MQ,hn]⟩
    ·refine .inr ⟨i+1,e',by congr 2;omega,by simpa using hi,by simpa using hk,fun j nF=>?_⟩
     cases j with
     | zero=>simp;exact fun h=>MQ h.symm
     | succ j=>simpa using hj j ag
def rK{P:Program}{kt:TypeId}{kind:TypeDesc}{κ:Type}[DecidableEq κ]{kv:κ→Value}(hu:P.underlying kt=some kind)(hs:∀a b,Instr.sameNow kind (kv a) (kv b)=some (decide (a=b)))(hk:(match kind with | .interface _=>false | .array _ _=>false | .struct _=>false|_=>true)=true)(inj:∀a b,kv a=kv b→a=b)(bits:∀k,Instr.sameBits 10000 (kv k) (kv k)=true):mI P kt kv where
 inj:=inj
 check:=fun e k w=>by
  unfold Instr.checkKey
  simp only[Sem.run_bind,underlying,run_program,Result.andThen_ok,hu,Sem.run_pure]
  cases kind <;> simp_all
 find:=fun k l ks w h=>by
  obtain⟨r,hr,iJ⟩:=findNow_spec hs k l ks 0 h
  refine⟨r,?_,?_⟩
  ·simp only[Instr.findKey,Sem.run_bind,underlying,run_program,Result.andThen_ok,hu,Sem.run_pure,hr]
  ·rcases iJ with h|⟨i,e,hr,hi,hk,hj⟩
   ·exact .inl h
   ·exact .inr ⟨i,e,by rw[hr];simp,hi,hk,hj⟩
 bits:=bits
def ab5(a b:ByteArray):(a == b)=decide (a=b):=by
 rw[Bool.eq_iff_iff]
 simp only[decide_eq_true_eq]
 constructor
 ·intro h
  have h1:(a.data == b.data)=true:=h
  cases a;cases b;simp at h1;rw[h1]
 ·rintro rfl
  show(a.data == a.data)=true
  simp
def ig{α β:Type}(g:α→β)(l:List α)(i:Nat):(l.eraseIdx i).map g=(l.map g).eraseIdx i:=by
 induction l generalizing i with
 | nil=>rfl
 | cons x l ih=>cases i <;> simp[ih]
def Ov{P:Program}{kt:TypeId}(hu:P.underlying kt=some .string):mI P kt Value.string :=
 rK hu (fun a b=>by simp only[Instr.sameNow,ab5]) rfl (fun a b h=>by cases h;rfl) (fun k=>by simp[Instr.sameBits,ab5])
def Cc{P:Program}{kt:TypeId}{j:IntKind}(hu:P.underlying kt=some (.int j)):mI P kt (Value.int j) :=
 rK hu (fun a b=>by simp only[Instr.sameNow,if_true,ab4]) rfl (fun a b h=>by cases h;rfl) (fun k=>by simp[Instr.sameBits])
section
variable{κ:Type}[DecidableEq κ]
def ez(es:List (κ × Value))(k:κ):Option Value:=(es.find? fun x=>decide (x.1=k)).map (·.2)
def nD(es:List (κ × Value))(k:κ)(v:Value):List (κ × Value):=if k∈es.map (·.1)then es.map (fun x=>if x.1=k then(k,v)else x)else es++[(k,v)]
def rE(es:List (κ × Value))(k:κ):List (κ × Value):=es.filter fun x => !decide (x.1=k)
def zk{es:List (κ × Value)}{k:κ}:ez es k=none↔k ∉ es.map (·.1):=by
 unfold ez
 simp only[Option.map_eq_none_iff,List.find?_eq_none,decide_eq_true_eq,List.mem_map,not_exists,not_and]
def Bn{es:List (κ × Value)}{k:κ}{i:Nat}{v:Value}(hi:es[i]?=some (k,v))(hj:∀j,j<i→(es.map (·.1))[j]? ≠ some k):ez es k=some v:=by
 induction es generalizing i with
 | nil=>simp at hi
 | cons x es ih =>
  cases i with
  | zero=>simp at hi;subst hi;simp[ez]
  | succ i =>
   simp at hi
   have h0:=hj 0 ag
   simp at h0
   have:=ih hi (fun j nF=>by have:=hj (j+1) ag;simpa using this)
   unfold ez at this ⊢
   simp[h0,this]
def p7(kv:κ→Value)(o:Obj)(es:List (κ × Value)):Prop :=
 ∃entries clock,o = .map entries clock∧entries.toList.map (fun e=>(e.key,e.val))=es.map (fun x=>(kv x.1,x.2))∧(es.map (·.1)).Nodup∧(∀e∈entries.toList,e.born<clock)∧(entries.toList.map (·.born)).Nodup
def aQ(kv:κ→Value)(b:Nat)(es:List (κ × Value)):HP:=fun h=>∃o,p7 kv o es∧ae b o h
def Sat.o5{G:cI}{w:World}{H:List HP}{kv:κ→Value}{b:Nat}{es:List (κ × Value)}(hs:Sat G w H){i:Nat}(hi:cE H i=some (aQ kv b es)):∃o,p7 kv o es∧w.heap[b]?=some o:=by
 obtain⟨h,hh,o,ho,hp⟩:=hs.lj hi
 exact⟨o,ho,hh b o (by rw[hp b];simp)⟩
def p8(kv:κ→Value)(b:Nat):∀h,ae b (.map #[] 0) h→aQ kv b [] h:=fun h hp=>⟨_,⟨#[],0,rfl,rfl,by simp,by simp,by simp⟩,hp⟩
def He{kv:κ→Value}{b:Nat}{es:List (κ × Value)}{h:Hp}(hm:aQ kv b es h):(es.map (·.1)).Nodup:=by
 obtain⟨o,⟨_,_,_,_,hn,_⟩,_⟩:=hm;exact hn
def Sat.B0{G:cI}{w:World}{H H':List HP}{kv:κ→Value}{b:Nat}{es es':List (κ × Value)}{o':Obj}{i:Nat}(hs:Sat G w H)(hi:cE H i=some (aQ kv b es))(hm:p7 kv o' es')(hp:lL i (aQ kv b es') H [] = .mk H') :
  Sat G { w with heap:=w.heap.setIfInBounds b o' } H':=by
 have wL:=hs.cN (ao.perm (di (by rw[← dI];exact hi)))
 obtain⟨hT,hO,RS,hh,ef,h1,h2,⟨o,ho,wM⟩,hB,hd,hj⟩:=wL
 have sC:Sat G w (ae b o::H.eraseIdx i):=⟨hT,hO,RS,hh,ef,h1,h2,wM,hB,hd,hj⟩
 have h3:=sC.BQ (o':=o')
 have h4:=oO i _ _ H [] H' hp hi
 refine(h3.cN ?_).cN (ao.perm (by simpa using h4.symm))
 exact ao.fold (B:=[_]) fun h hs=>⟨h,sub.refl h,o',hm,eU hs⟩
end
section
variable{P:Program}{U:Tr}[hU:fV P U]{f:FuncId}{n:Nat}{R:Ending→World→Prop}{G:cI}{k:List Item}{L:fD}{H H':List HP}{S:World→Prop}{all:Array Oper}{rest:Pl}{ty:TypeId}{pos:String}{af:Array Edge}{gd:Option (Nat × Bool)}{m:Bool}{d:Tmp}
variable{κ:Type}[DecidableEq κ]{kv:κ→Value}
def run_getObj_map{w:World}{b:Nat}{es:Array MapEntry}{c:Nat}(h:w.heap[b]?=some (.map es c)):(getObj b).run P w = .ok (.map es c) w:=by
 simp[getObj,Sem.run,h]
def oK{t kt et:TypeId}{bQ te:Ty}{z:Value}{b:Nat}{es:List (κ × Value)}{key:κ}{o:Obj}{w:World}(c:Bool)(zX:mI P kt kv)(ht:U.get t=some bQ)(hu:bQ.gy = .map kt et)(he:U.get et=some te)(hz:te.info.zero=some z)(hm:p7 kv o es)(hb:w.heap[b]?=some o) :
  (Instr.lookup t (.map (some b)) (kv key) c).run P w = .ok (if c then .tuple #[(ez es key).getD z,.bool (ez es key).isSome]else(ez es key).getD z) w:=by
 obtain⟨entries,clock,rfl,rC,kf,lh,HF⟩:=hm
 have Xw:entries.toList.map (·.key)=(es.map (·.1)).map kv:=by
  have:=congrArg (List.map (·.1)) rC
  simpa[Function.comp_def]using this
 obtain⟨r,hr,iJ⟩:=zX.find key entries.toList (es.map (·.1)) w Xw
 unfold Instr.lookup
 simp only[Sem.run_bind,run_underlying ht,Result.andThen_ok,hu,run_getObj_map hb,Sem.run_pure,zX.check,hr]
 rcases iJ with⟨rfl,hn⟩|⟨i,e,rfl,hi,hk,hj⟩
 ·have:=zk.2 hn
  simp only[Sem.run_bind,dX he hz,Result.andThen_ok,Sem.run_pure,this]
  cases c <;> rfl
 ·have hv:es[i]?=some (key,e.val):=by
   have h1:=congrArg (·[i]?) rC
   simp only[List.getElem?_map,hi,Option.map_some]at h1
   simp only[List.getElem?_map]at hk
   cases hx:es[i]? with
   | none=>rw[hx]at hk;cases hk
   | some x =>
    rw[hx]at h1 hk
    simp only[Option.map_some,Option.some.injEq,Prod.mk.injEq]at h1 hk
    rw[← hk,h1.2]
  have:=Bn hv hj
  simp only[Sem.run_pure,Result.andThen_ok,this]
  cases c <;> rfl
def Qc{t kt et:TypeId}{bQ te:Ty}{z:Value}{x y:Operand}{b:Nat}{es:List (κ × Value)}{key:κ}{qc:Value}(i:Nat)(hd:Nat.blt d n=true)(zX:mI P kt kv)(hx:ev L x=some (.map (some b)))(hy:ev L y=some qc)(O2:qc=kv key)(ht:U.get t=some bQ)(hu:bQ.gy = .map kt et)(he:U.get et=some te)(hz:te.info.zero=some z)(hi:cE H i=some (aQ kv b es))(h:J P f n R G S all rest k ((d,(ez es key).getD z)::L) H):J P f n R G S all (.cons false true ⟨some d,.lookup t x y false,ty,pos,af,gd⟩ rest) k L H :=
 kL hd (fun a w ha hw=>by
  obtain⟨o,hm,hb⟩:=hw.o5 hi
  subst O2
  simp[execOp,ha.ev hx,ha.ev hy,oK (P:=P) (key:=key) false zX ht hu he hz hm hb]) h
def qD{t kt et:TypeId}{bQ te:Ty}{z:Value}{x y:Operand}{b:Nat}{es:List (κ × Value)}{key:κ}{qc:Value}(hd:Nat.blt d n=true)(zX:mI P kt kv)(hx:ev L x=some (.map (some b)))(hy:ev L y=some qc)(O2:qc=kv key)(ht:U.get t=some bQ)(hu:bQ.gy = .map kt et)(he:U.get et=some te)(hz:te.info.zero=some z)(hi:∀w,Sat G w H→∃o,p7 kv o es∧w.heap[b]?=some o)(h:J P f n R G S all rest k ((d,.tuple #[(ez es key).getD z,.bool (ez es key).isSome])::L) H):J P f n R G S all (.cons false true ⟨some d,.lookup t x y true,ty,pos,af,gd⟩ rest) k L H :=
 kL hd (fun a w ha hw=>by
  obtain⟨o,hm,hb⟩:=hi w hw
  subst O2
  simp[execOp,ha.ev hx,ha.ev hy,oK (P:=P) (key:=key) true zX ht hu he hz hm hb]) h
def Bw{t kt et:TypeId}{bQ te:Ty}{z:Value}{x y:Operand}{b:Nat}{es:List (κ × Value)}{key:κ}{qc:Value}(hd:Nat.blt d n=true)(zX:mI P kt kv)(hx:ev L x=some (.map (some b)))(hy:ev L y=some qc)(O2:qc=kv key)(ht:U.get t=some bQ)(hu:bQ.gy = .map kt et)(he:U.get et=some te)(hz:te.info.zero=some z)(hi:∀w,S w→∃o,p7 kv o es∧w.heap[b]?=some o)(h:J P f n R G S all rest k ((d,(ez es key).getD z)::L) H):J P f n R G S all (.cons true true ⟨some d,.lookup t x y false,ty,pos,af,gd⟩ rest) k L H :=
 kU hd (fun a w ha hw=>by
  obtain⟨o,hm,hb⟩:=hi w hw
  subst O2
  simp[execOp,ha.ev hx,ha.ev hy,oK (P:=P) (key:=key) false zX ht hu he hz hm hb]) h
def qC{t kt et:TypeId}{bQ te:Ty}{z:Value}{x y:Operand}{b:Nat}{es:List (κ × Value)}{key:κ}{qc:Value}(hd:Nat.blt d n=true)(zX:mI P kt kv)(hx:ev L x=some (.map (some b)))(hy:ev L y=some qc)(O2:qc=kv key)(ht:U.get t=some bQ)(hu:bQ.gy = .map kt et)(he:U.get et=some te)(hz:te.info.zero=some z)(hi:∀w,S w→∃o,p7 kv o es∧w.heap[b]?=some o)(h:J P f n R G S all rest k ((d,.tuple #[(ez es key).getD z,.bool (ez es key).isSome])::L) H):J P f n R G S all (.cons true true ⟨some d,.lookup t x y true,ty,pos,af,gd⟩ rest) k L H :=
 kU hd (fun a w ha hw=>by
  obtain⟨o,hm,hb⟩:=hi w hw
  subst O2
  simp[execOp,ha.ev hx,ha.ev hy,oK (P:=P) (key:=key) true zX ht hu he hz hm hb]) h
def Og{entries:Array MapEntry}{clock:Nat}{es:List (κ × Value)}{key:κ}{v:Value}{i:Nat}{e:MapEntry}(hm:p7 kv (.map entries clock) es)(hi:entries.toList[i]?=some e)(hk:(es.map (·.1))[i]?=some key) :
  p7 kv (.map (entries.modify i fun e=>{ e with key:=kv key,val:=v }) clock) (nD es key v):=by
 obtain⟨tW,CB,heq,rC,kf,lh,HF⟩:=hm
 cases heq
 have e9:key∈es.map (·.1):=List.mem_of_getElem? hk
 have Xq:(entries.modify i fun e=>{ e with key:=kv key,val:=v }).toList=entries.toList.modify i (fun e=>{ e with key:=kv key,val:=v }):=by simp
 refine⟨_,clock,rfl,?_,?_,?_,?_⟩
 ·rw[Xq]
  apply List.ext_getElem?
  intro j
  have hj:=congrArg (·[j]?) rC
  simp only[List.getElem?_map]at hj
  simp only[nD,e9,if_true,List.getElem?_map,List.getElem?_modify]
  cases hx:es[j]? with
  | none =>
   rw[hx]at hj
   simp at hj
   simp[hj]
  | some x =>
   rw[hx]at hj
   simp only[Option.map_some]at hj
   cases hy:entries.toList[j]? with
   | none=>rw[hy]at hj;cases hj
   | some y =>
    rw[hy]at hj
    simp only[Option.map_some,Option.some.injEq,Prod.mk.injEq]at hj
    by_cases A6:i=j
    ·subst A6
     simp only[List.getElem?_map,hx,Option.map_some,Option.some.injEq]at hk
     simp[hk]
    ·have bZ:x.1≠key:=fun hxk=>by
      have h1:(es.map (·.1))[j]?=some key:=by simp[hx,hxk]
      exact A6 ((List.getElem?_inj (by
       rcases Nat.lt_or_ge i (es.map (·.1)).length with h|h
       ·exact h
       ·rw[List.getElem?_eq_none h]at hk;cases hk) kf).1 (hk.trans h1.symm))
     simp[A6,bZ,hj.1,hj.2]
 ·have:(nD es key v).map (·.1)=es.map (·.1):=by
   simp only[nD,e9,if_true,List.map_map]
   apply List.map_congr_left
   intro x _
   simp only[Function.comp]
   split
   ·rename_i h;exact h.symm
   ·rfl
  rw[this];exact kf
 ·intro e' MT
  rw[Xq]at MT
  obtain⟨j,hj⟩:=List.getElem?_of_mem MT
  rw[List.getElem?_modify]at hj
  cases hy:entries.toList[j]? with
  | none=>rw[hy]at hj;cases hj
  | some y =>
   rw[hy]at hj
   have:=lh y (List.mem_of_getElem? hy)
   simp at hj
   split at hj <;> (subst hj;exact this)
 ·rw[Xq]
  have:(entries.toList.modify i (fun e=>{ e with key:=kv key,val:=v })).map (·.born)=entries.toList.map (·.born):=by
   apply List.ext_getElem?
   intro j
   simp only[List.getElem?_map,List.getElem?_modify]
   cases hy:entries.toList[j]? with
   | none=>rfl
   | some y=>simp only[Option.map_some];split <;> rfl
  rw[this];exact HF
def KY{entries:Array MapEntry}{clock:Nat}{es:List (κ × Value)}{key:κ}{v:Value}(hm:p7 kv (.map entries clock) es)(hn:key ∉ es.map (·.1)) :
  p7 kv (.map (entries.push { key:=kv key,val:=v,born:=clock }) (clock+1)) (nD es key v):=by
 obtain⟨tW,CB,heq,rC,kf,lh,HF⟩:=hm
 cases heq
 refine⟨_,clock+1,rfl,?_,?_,?_,?_⟩
 ·simp[nD,hn,rC]
 ·simp only[nD,hn,if_false,List.map_append,List.map_cons,List.map_nil]
  rw[List.nodup_append]
  exact⟨kf,by simp,fun a ha b hb=>by simp at hb;subst hb;rintro rfl;exact hn ha⟩
 ·intro e he
  simp only[Array.toList_push,List.mem_append,List.mem_singleton]at he
  rcases he with he|rfl
  ·have:=lh e he;omega
  ·simp
 ·simp only[Array.toList_push,List.map_append,List.map_cons,List.map_nil]
  rw[List.nodup_append]
  refine⟨HF,by simp,fun a ha b hb=>?_⟩
  simp at hb
  subst hb
  obtain⟨e,he,rfl⟩:=List.mem_map.1 ha
  have:=lh e he
  omega
def GN{t kt et:TypeId}{bQ:Ty}{b:Nat}{es:List (κ × Value)}{key:κ}{v:Value}{w:World}{i:Nat}(zX:mI P kt kv)(ht:U.get t=some bQ)(hu:bQ.gy = .map kt et)(hw:Sat G w H)(hi:cE H i=some (aQ kv b es))(hp:lL i (aQ kv b (nD es key v)) H [] = .mk H') :
  ∃w',(Instr.mapUpdate t (.map (some b)) (kv key) v).run P w = .ok () w'∧Sat G w' H':=by
 obtain⟨o,hm,hb⟩:=hw.o5 hi
 have zN:=hm
 obtain⟨entries,clock,rfl,rC,kf,lh,HF⟩:=hm
 have Xw:entries.toList.map (·.key)=(es.map (·.1)).map kv:=by
  have:=congrArg (List.map (·.1)) rC
  simpa[Function.comp_def]using this
 obtain⟨r,hr,iJ⟩:=zX.find key entries.toList (es.map (·.1)) w Xw
 have iq:∀o',(setObj b o').run P w = .ok () { w with heap:=w.heap.setIfInBounds b o' }:=fun o'=>by simp[setObj,Sem.run,hb]
 rcases iJ with⟨rfl,hn⟩|⟨j,e,rfl,hj,hk,cW⟩
 ·refine⟨_,?_,hw.B0 hi (KY (v:=v) zN hn) hp⟩
  unfold Instr.mapUpdate
  simp only[Sem.run_bind,run_underlying ht,Result.andThen_ok,hu,run_getObj_map hb,zX.check,hr,iq]
 ·refine⟨_,?_,hw.B0 hi (Og (v:=v) zN hj hk) hp⟩
  have hek:e.key=kv key:=by
   have h1:=congrArg (·[j]?) Xw
   simp only[List.getElem?_map,hj,Option.map_some]at h1 hk
   rw[hk]at h1
   simpa using h1
  have nF:entries[j]?=some e:=by simpa using hj
  unfold Instr.mapUpdate
  simp only[Sem.run_bind,run_underlying ht,Result.andThen_ok,hu,run_getObj_map hb,zX.check,hr,nF,Option.map_some,Option.getD_some,hek,Instr.keyThatStays,zX.bits,if_true,Sem.run_pure,iq]
def FQ{t kt et:TypeId}{bQ:Ty}{x y v0:Operand}{b:Nat}{es:List (κ × Value)}{key:κ}{qc v:Value}(i:Nat)(zX:mI P kt kv)(hS:∀w,Sat G w H'→Sx rest S w)(hx:ev L x=some (.map (some b)))(hy:ev L y=some qc)(O2:qc=kv key)(hv:ev L v0=some v)(ht:U.get t=some bQ)(hu:bQ.gy = .map kt et)(hi:cE H i=some (aQ kv b es))(hp:lL i (aQ kv b (nD es key v)) H [] = .mk H')(h:J P f n R G S all rest k L H'):J P f n R G S all (.cons false true ⟨none,.mapUpdate t x y v0,ty,pos,af,gd⟩ rest) k L H:=by
 refine Qi (fun H1=>H1=H') (fun a w ha hw=>?_) (fun H1 w e hw=>hS w (e ▸ hw)) (fun H1 e=>e ▸ h)
 subst O2
 obtain⟨w',hr,hs⟩:=GN (P:=P) zX ht hu hw hi hp
 exact⟨w',H',by simp[execOp,ha.ev hx,ha.ev hy,ha.ev hv,hr],rfl,hs⟩
def Cs{es:List (κ × Value)}{key:κ}:∀ {i:Nat},(es.map (·.1)).Nodup→(es.map (·.1))[i]?=some key→rE es key=es.eraseIdx i:=by
 induction es with
 | nil=>intro i _ h;simp at h
 | cons x es ih =>
  intro i kf hk
  simp only[List.map_cons,List.nodup_cons]at kf
  cases i with
  | zero =>
   simp at hk
   subst hk
   simp only[rE,decide_true,Bool.not_true,List.filter_cons,Bool.false_eq_true,if_false,List.eraseIdx_cons_zero]
   apply List.filter_eq_self.2
   intro y hy
   simp only[Bool.not_eq_true',decide_eq_false_iff_not]
   intro e
   exact kf.1 (List.mem_map.2 ⟨y,hy,e⟩)
  | succ i =>
   simp at hk
   have bZ:x.1≠key:=fun e=>kf.1 (by rw[e];exact List.mem_of_getElem? (by simpa using hk))
   have:=ih kf.2 (i:=i) (by simpa using hk)
   simp only[rE]at this ⊢
   simp[bZ,this]
def L1{es:List (κ × Value)}{key:κ}(h:key ∉ es.map (·.1)):rE es key=es:=by
 apply List.filter_eq_self.2
 intro y hy
 simp only[Bool.not_eq_true',decide_eq_false_iff_not]
 intro e
 exact h (List.mem_map.2 ⟨y,hy,e⟩)
def Oh{entries:Array MapEntry}{clock:Nat}{es:List (κ × Value)}{key:κ}{i:Nat}{e:MapEntry}(hm:p7 kv (.map entries clock) es)(hi:entries.toList[i]?=some e)(hk:(es.map (·.1))[i]?=some key) :
  p7 kv (.map (entries.eraseIdxIfInBounds i) clock) (rE es key):=by
 obtain⟨tW,CB,heq,rC,kf,lh,HF⟩:=hm
 cases heq
 have py:(entries.eraseIdxIfInBounds i).toList=entries.toList.eraseIdx i:=by simp
 rw[Cs kf hk]
 refine⟨_,clock,rfl,?_,?_,?_,?_⟩
 ·rw[py,ig,ig,rC]
 ·rw[ig];exact kf.eraseIdx _
 ·intro e' MT;rw[py]at MT;exact lh e' (List.mem_of_mem_eraseIdx MT)
 ·rw[py,ig];exact HF.eraseIdx _
def Qe{t kt et:TypeId}{bQ:Ty}{x y:Operand}{t2:TypeId}{b:Nat}{es:List (κ × Value)}{key:κ}{qc:Value}(i:Nat)(zX:mI P kt kv)(hS:∀w,Sat G w H'→Sx rest S w)(hx:ev L x=some (.map (some b)))(hy:ev L y=some qc)(O2:qc=kv key)(ht:U.get t=some bQ)(hu:bQ.gy = .map kt et)(hi:cE H i=some (aQ kv b es))(hp:lL i (aQ kv b (rE es key)) H [] = .mk H')(h:J P f n R G S all rest k L H'):J P f n R G S all (.cons false true ⟨none,.call { callee := .builtin .delete,args := #[x,y],argTypes := #[t,t2] },ty,pos,af,gd⟩ rest) k L H:=by
 intro a w ha hw _
 subst O2
 obtain⟨o,hm,hb⟩:=hw.o5 hi
 have zN:=hm
 obtain⟨entries,clock,rfl,rC,kf,lh,HF⟩:=hm
 have Xw:entries.toList.map (·.key)=(es.map (·.1)).map kv:=by
  have:=congrArg (List.map (·.1)) rC
  simpa[Function.comp_def]using this
 obtain⟨r,hr,iJ⟩:=zX.find key entries.toList (es.map (·.1)) w Xw
 have iq:∀o',(setObj b o').run P w = .ok () { w with heap:=w.heap.setIfInBounds b o' }:=fun o'=>by simp[setObj,Sem.run,hb]
 refine .inl ⟨.inl rfl,.inr ⟨rfl,?_⟩⟩
 rcases iJ with⟨rfl,hn⟩|⟨j,e,rfl,hj,hk,cW⟩
 ·have hs:=hw.B0 hi (o' := .map entries clock) (es':=rE es key) (by rw[L1 hn];exact zN) hp
  have:(execOp a.eval ⟨none,.call { callee := .builtin .delete,args := #[x,y],argTypes := #[t,t2] },ty,pos,af,gd⟩).run P w = .ok (.value (.tuple #[])) { w with heap:=w.heap.setIfInBounds b (.map entries clock) }:=by
   simp only[execOp,resolve,invoke,builtin,Sem.run_bind,Sem.run_pure,Result.andThen_ok,List.map_toArray,List.map_cons,List.map_nil,ha.ev hx,ha.ev hy,Builtin.delete_,List.getElem?_toArray,List.getElem?_cons_zero,List.getElem?_cons_succ,
    run_underlying ht,hu,run_getObj_map hb,zX.check,hr,iq]
  exact iB this ⟨hS _ hs,h a _ ha hs (hS _ hs)⟩
 ·have hs:=hw.B0 hi (Oh zN hj hk) hp
  have:(execOp a.eval ⟨none,.call { callee := .builtin .delete,args := #[x,y],argTypes := #[t,t2] },ty,pos,af,gd⟩).run P w = .ok (.value (.tuple #[])) { w with heap:=w.heap.setIfInBounds b (.map (entries.eraseIdxIfInBounds j) clock) }:=by
   simp only[execOp,resolve,invoke,builtin,Sem.run_bind,Sem.run_pure,Result.andThen_ok,List.map_toArray,List.map_cons,List.map_nil,ha.ev hx,ha.ev hy,Builtin.delete_,List.getElem?_toArray,List.getElem?_cons_zero,List.getElem?_cons_succ,
    run_underlying ht,hu,run_getObj_map hb,zX.check,hr,iq]
  exact iB this ⟨hS _ hs,h a _ ha hs (hS _ hs)⟩
def GO{t kt et:TypeId}{bQ:Ty}{b:Nat}{es:List (κ × Value)}{o:Obj}{w:World}{rty:TypeId}(ht:U.get t=some bQ)(hu:bQ.gy = .map kt et)(hm:p7 kv o es)(hb:w.heap[b]?=some o) :
  (Builtin.len_ #[t] rty #[.map (some b)]).run P w = .ok (.int .i64 es.length) w:=by
 obtain⟨entries,clock,rfl,rC,kf,lh,HF⟩:=hm
 have hl:entries.size=es.length:=by have:=congrArg List.length rC;simpa using this
 simp[Builtin.len_,run_underlying ht,hu,run_getObj_map hb,goInt,hl]
def Mt{t kt et:TypeId}{bQ:Ty}{x:Operand}{b:Nat}{es:List (κ × Value)}(hd:Nat.blt d n=true)(hx:ev L x=some (.map (some b)))(ht:U.get t=some bQ)(hu:bQ.gy = .map kt et)(hi:∀w,Sat G w H→∃o,p7 kv o es∧w.heap[b]?=some o)(h:J P f n R G S all rest k ((d,.int .i64 es.length)::L) H):J P f n R G S all (.cons false true ⟨some d,.call { callee := .builtin .len,args := #[x],argTypes := #[t] },ty,pos,af,gd⟩ rest) k L H :=
 kL hd (fun a w ha hw=>by
  obtain⟨o,hm,hb⟩:=hi w hw
  simp[execOp,resolve,invoke,builtin,ha.ev hx,GO (P:=P) ht hu hm hb]) h
def bP(kv:κ→Value)(b it:Nat)(es:List (κ × Value))(done:List κ):HP:=fun h =>
 ∃entries clock seen,p7 kv (.map entries clock) es∧(∀(i:Nat) (e:MapEntry) (x:κ × Value),entries.toList[i]?=some e→es[i]?=some x→(seen.contains e.born=true↔x.1∈done)) ∧
  (∀key,done.head?=some key→∃e∈entries.toList,e.key=kv key∧seen.back?=some e.born) ∧
  star (ae b (.map entries clock)) (ae it (.mapIter (some b) clock seen clock)) h
def qQ{b it:Nat}{es:List (κ × Value)}{done:List κ}:∀h,bP kv b it es done h→∃h',sub h' h∧aQ kv b es h':=by
 rintro h⟨entries,clock,seen,hm,_,_,hs⟩
 obtain⟨h',s,hp⟩:=km hs
 exact⟨h',s,_,hm,hp⟩
def wZ{t kt et:TypeId}{bQ:Ty}{x:Operand}{b:Nat}{es:List (κ × Value)}(i:Nat)(hd:Nat.blt d n=true)(hx:ev L x=some (.map (some b)))(ht:U.get t=some bQ)(hu:bQ.gy = .map kt et)(hi:cE H i=some (aQ kv b es)){Hf:Nat→List HP}(hp:∀it,lL i (bP kv b it es []) H [] = .mk (Hf it))(hS:∀it w,Sat G w (Hf it)→Sx rest S w)(h:∀it,J P f n R G S all rest k ((d,.pointer (some ⟨it,0,none⟩))::L) (Hf it)):J P f n R G S all (.cons false true ⟨some d,.range t x,ty,pos,af,gd⟩ rest) k L H:=by
 refine oy hd (fun u H1=>∃it,u = .pointer (some ⟨it,0,none⟩)∧H1=Hf it) (fun a w ha hw=>?_) ?_ ?_
 ·obtain⟨o,hm,hb⟩:=hw.o5 hi
  have wL:=hw.cN (ao.perm (di (by rw[← dI];exact hi)))
  obtain⟨hT,hO,RS,hh,ef,h1,h2,⟨o',ho',wM⟩,hB,XJ,hj⟩:=wL
  have hoo:o'=o:=by
   have:w.heap[b]?=some o':=ef b o' (by rw[hj b,wM b];simp)
   rw[hb]at this;cases this;rfl
  subst hoo
  have sC:Sat G w (ae b o'::H.eraseIdx i):=⟨hT,hO,RS,hh,ef,h1,h2,wM,hB,XJ,hj⟩
  obtain⟨entries,clock,rfl,gw⟩:=hm
  refine⟨_,{ w with heap:=w.heap.push (.mapIter (some b) clock #[] clock) },Hf w.heap.size,?_,⟨w.heap.size,rfl,rfl⟩,?_⟩
  ·simp only[execOp,ha.ev hx,Instr.range,Sem.run_bind,run_underlying ht,Result.andThen_ok,hu,run_getObj_map hb,Sem.run_pure,run_newObj]
  ·have h3:=sC.alloc (.mapIter (some b) clock #[] clock)
   have h4:=oO i _ _ H [] (Hf w.heap.size) (hp _) hi
   refine(h3.cN ?_).cN (ao.perm (by simpa using h4.symm))
   refine(ao.perm (List.Perm.swap _ _ _)).trans ?_
   refine ao.fold (B:=[_,_]) fun h hs=>⟨h,sub.refl h,entries,clock,#[],⟨entries,clock,rfl,gw⟩,fun i e x _ _=>by simp,by simp,?_⟩
   exact fz (fun _ h=>h) (fun _ h=>eU h) hs
 ·rintro u H1 w⟨it,rfl,rfl⟩ hw;exact hS it w hw
 ·rintro u H1⟨it,rfl,rfl⟩;exact h it
def xh{x:Operand}{b it:Nat}{es:List (κ × Value)}{done:List κ}{key:κ}{v:Value}(i:Nat)(hd:Nat.blt d n=true)(abn:∀a b,kv a=kv b→a=b)(hx:ev L x=some (.pointer (some ⟨it,0,none⟩)))(hi:cE H i=some (bP kv b it es (key::done)))(hv:(key,v)∈es)(h:J P f n R G S all rest k ((d,.tuple #[kv key,v])::L) H):J P f n R G S all (.cons false true ⟨some d,.entry x,ty,pos,af,gd⟩ rest) k L H :=
 kL hd (fun a w ha hw=>by
  have wL:=hw.cN (ao.perm (di (by rw[← dI];exact hi)))
  obtain⟨hT,hO,RS,hh,ef,h1,h2,hA,hB,XJ,hj⟩:=wL
  obtain⟨entries,clock,seen,hm,Ji,lf,h3,h4,nw,Lk,RM,Db⟩:=hA
  have hb:w.heap[b]?=some (.map entries clock):=ef b _ (by rw[hj b,Db b,nw b];simp)
  have Ll:w.heap[it]?=some (.mapIter (some b) clock seen clock):=by
   refine ef it _ ?_
   rw[hj it,Db it,Lk it]
   rcases RM it with e|e
   ·rw[e];simp
   ·rw[Lk it]at e;simp at e
  obtain⟨tW,CB,heq,rC,kf,lh,HF⟩:=hm
  cases heq
  have hgm:=run_getObj_map (P:=P) hb
  have Te:(getObj it).run P w = .ok (.mapIter (some b) clock seen clock) w:=by simp[getObj,Sem.run,Ll]
  obtain⟨e,he,hek,jj⟩:=lf key rfl
  -- the cell's value
  obtain⟨j,wN⟩:=List.getElem?_of_mem he
  have hev:e.val=v:=by
   have h6:=congrArg (·[j]?) rC
   simp only[List.getElem?_map,wN,Option.map_some]at h6
   cases ru:es[j]? with
   | none=>rw[ru]at h6;cases h6
   | some x2 =>
    rw[ru]at h6
    simp only[Option.map_some,Option.some.injEq,Prod.mk.injEq]at h6
    have YP:x2.1=key:=abn _ _ (h6.1.symm.trans hek)
    obtain⟨j2,Cj⟩:=List.getElem?_of_mem hv
    have RY:(es.map (·.1))[j]?=(es.map (·.1))[j2]? := by simp only[List.getElem?_map,ru,Cj,Option.map_some,YP]
    have X2:j=j2:=(List.getElem?_inj (by
     have:j<es.length:=by
      rcases Nat.lt_or_ge j es.length with h|h
      ·exact h
      ·rw[List.getElem?_eq_none h]at ru;cases ru
     rw[List.length_map];exact this) kf).1 RY
    subst X2
    rw[ru]at Cj
    cases Cj
    exact h6.2
  have yD:entries.find? (fun x=>x.born == e.born)=some e:=by
   rw[← Array.find?_toList]
   cases hf:entries.toList.find? (fun x=>x.born == e.born)with
   | none=>have:=List.find?_eq_none.1 hf e he;simp at this
   | some e2 =>
    have h1:=List.find?_some hf
    have h2:=List.mem_of_find?_eq_some hf
    simp only[beq_iff_eq]at h1
    obtain⟨j2,Cj⟩:=List.getElem?_of_mem h2
    have RY:(entries.toList.map (·.born))[j2]?=(entries.toList.map (·.born))[j]? := by simp only[List.getElem?_map,wN,Cj,Option.map_some,h1]
    have X2:j2=j:=(List.getElem?_inj (by
     have:j2<entries.toList.length:=by
      rcases Nat.lt_or_ge j2 entries.toList.length with h|h
      ·exact h
      ·rw[List.getElem?_eq_none h]at Cj;cases Cj
     rw[List.length_map];exact this) HF).1 RY
    subst X2
    rw[wN]at Cj
    cases Cj
    rfl
  simp only[execOp,ha.ev hx,Instr.entry,Sem.run_bind,Te,hgm,Result.andThen_ok,jj,yD,Sem.run_pure,hek,hev,bne_self_eq_false,Bool.false_eq_true,if_false]) h
def CZ{x:Operand}{b it:Nat}{es:List (κ × Value)}{done:List κ}(i:Nat)(hd:Nat.blt d n=true)(abn:∀a b,kv a=kv b→a=b)(hx:ev L x=some (.pointer (some ⟨it,0,none⟩)))(hi:cE H i=some (bP kv b it es done)){Hf:κ→List HP}(hp:∀key,lL i (bP kv b it es (key::done)) H [] = .mk (Hf key))(hS0:∀w,Sat G w H→Sx rest S w)(hS:∀key w,Sat G w (Hf key)→Sx rest S w)(gP:(∀y∈es,y.1∈done)→J P f n R G S all rest k ((d,.tuple #[.bool false])::L) H)(YU:∀key v,(key,v)∈es→key ∉ done→J P f n R G S all rest k ((d,.tuple #[.bool true,kv key,v])::L) (Hf key)) :
  J P f n R G S all (.cons false true ⟨some d,.next x false,ty,pos,af,gd⟩ rest) k L H:=by
 intro a w ha hw _
 refine .inl ⟨.inl rfl,.inr ⟨rfl,?_⟩⟩
 have wL:=hw.cN (ao.perm (di (by rw[← dI];exact hi)))
 obtain⟨hT,hO,RS,hh,ef,h1,h2,hA,hB,XJ,hj⟩:=wL
 obtain⟨entries,clock,seen,hm,Ji,_,h3,h4,nw,Lk,RM,Db⟩:=hA
 have hb:w.heap[b]?=some (.map entries clock):=ef b _ (by rw[hj b,Db b,nw b];simp)
 have Ll:w.heap[it]?=some (.mapIter (some b) clock seen clock):=by
  refine ef it _ ?_
  rw[hj it,Db it,Lk it]
  rcases RM it with e|e
  ·rw[e];simp
  ·rw[Lk it]at e;simp at e
 obtain⟨tW,CB,heq,rC,kf,lh,HF⟩:=hm
 cases heq
 have hgm:=run_getObj_map (P:=P) hb
 have Te:(getObj it).run P w = .ok (.mapIter (some b) clock seen clock) w:=by simp[getObj,Sem.run,Ll]
 have gp:(!seen.isEmpty && !entries.isEmpty && entries.all (·.born≥clock))=false:=by
  cases he:entries.isEmpty with
  | true=>simp
  | false =>
   have bZ:entries.toList≠[]:=by simpa[Array.isEmpty_iff]using he
   obtain⟨e,l,py⟩:=List.exists_cons_of_ne_nil bZ
   have h5:=lh e (by rw[py];simp)
   have:entries.all (fun x=>decide (x.born≥clock))=false:=by
    rw[← Array.all_toList,py]
    simp
    intro h;omega
   rw[this];simp
 have hold:∀(l:Array MapEntry),(∀e∈l.toList,e∈entries.toList)→l.filter (·.born<clock)=l∧l.filter (·.born≥clock) = #[]:=by
  intro l hl
  constructor
  ·apply Array.filter_eq_self.2
   intro e he;simpa using lh e (hl e (by simpa using he))
  ·apply Array.filter_eq_empty_iff.2
   intro e he;have:=lh e (hl e (by simpa using he));simp;omega
 have Tb:=hold (entries.filter fun e => !seen.contains e.born) (fun e he=>by simp at he;simpa using he.1)
 -- the entry that comes, if one does
 have aa9:∀e,e∈entries.toList→∃(j:Nat) (x:κ × Value),entries.toList[j]?=some e∧es[j]?=some x∧x∈es∧e.key=kv x.1∧e.val=x.2∧(seen.contains e.born=true↔x.1∈done):=by
  intro e he
  obtain⟨j,wN⟩:=List.getElem?_of_mem he
  have h6:=congrArg (·[j]?) rC
  simp only[List.getElem?_map,wN,Option.map_some]at h6
  cases ru:es[j]? with
  | none=>rw[ru]at h6;cases h6
  | some x2 =>
   rw[ru]at h6
   simp only[Option.map_some,Option.some.injEq,Prod.mk.injEq]at h6
   exact⟨j,x2,wN,ru,List.mem_of_getElem? ru,h6.1,h6.2,Ji j e x2 wN ru⟩
 have aaN:∀x,x∈es→∃e,e∈entries.toList∧e.key=kv x.1∧(seen.contains e.born=true↔x.1∈done):=by
  intro x2 ru
  obtain⟨j,wN⟩:=List.getElem?_of_mem ru
  have h6:=congrArg (·[j]?) rC
  simp only[List.getElem?_map,wN,Option.map_some]at h6
  cases he:entries.toList[j]? with
  | none=>rw[he]at h6;cases h6
  | some e =>
   rw[he]at h6
   simp only[Option.map_some,Option.some.injEq,Prod.mk.injEq]at h6
   exact⟨e,List.mem_of_getElem? he,h6.1,Ji j e x2 he wN⟩
 have aaW:(execOp a.eval ⟨some d,.next x false,ty,pos,af,gd⟩)=(do let v ← Instr.next (.pointer (some ⟨it,0,none⟩)) false ty;pure (.value v)):=by simp only[execOp,ha.ev hx]
 refine l4 (fun c hc=>by cases hc) rfl ?_
 rw[aaW]
 simp only[Sem.run_bind,Instr.next,Te,Result.andThen_ok,hgm,gp,Bool.false_eq_true,if_false,Tb.1,Tb.2,Array.append_empty]
 by_cases EO:(entries.filter fun e => !seen.contains e.born).isEmpty=true
 ·have he:(entries.filter fun e => !seen.contains e.born) = #[]:=Array.isEmpty_iff.1 EO
  have abA:∀y∈es,y.1∈done:=by
   intro y hy
   obtain⟨e,hem,_,O7⟩:=aaN y hy
   apply O7.1
   cases hc:seen.contains e.born with
   | true=>rfl
   | false =>
    have:e∈(entries.filter fun e => !seen.contains e.born):=by simp only[Array.mem_filter];exact⟨by simpa using hem,by rw[hc];rfl⟩
    rw[he]at this;simp at this
  have:=gP abA
  simp only[he,Array.isEmpty_empty,if_true,Array.map_empty,Array.append_empty,Sem.run_bind,run_choose]
  simp only[Question.forced,List.size_toArray,List.length_singleton,Nat.le_refl,decide_true,if_true,Result.andThen_ok,List.getElem?_toArray,List.getElem?_cons_zero,Sem.run_pure]
  exact⟨hS0 w hw,this _ w (ha.put hd _) hw (hS0 w hw)⟩
 ·have O9:(entries.filter fun e => !seen.contains e.born).isEmpty=false:=by simpa using EO
  obtain⟨q,w1,hq,zK,RN⟩:∃q w1,q<(entries.filter fun e => !seen.contains e.born).size∧(w1=w∨w1=w.drew) ∧
    (choose (.mapNext ((entries.filter fun e => !seen.contains e.born).map some).size)).run P w = .ok q w1:=by
   have lA:0<(entries.filter fun e => !seen.contains e.born).size:=by
    rcases Nat.eq_zero_or_pos (entries.filter fun e => !seen.contains e.born).size with h|h
    ·have:=Array.eq_empty_of_size_eq_zero h;rw[this]at O9;simp at O9
    ·exact h
   simp only[run_choose,Array.size_map]
   by_cases hf:(Question.mapNext (entries.filter fun e => !seen.contains e.born).size).forced=true
   ·exact⟨0,w,lA,.inl rfl,by rw[if_pos hf]⟩
   ·exact⟨_,w.drew,Nat.mod_lt _ lA,.inr rfl,by rw[if_neg hf];rfl⟩
  have EJ:((entries.filter fun e => !seen.contains e.born).map some)[q]?=some (some (entries.filter fun e => !seen.contains e.born)[q]):=by simp[hq]
  generalize hE:(entries.filter fun e => !seen.contains e.born)[q]=e at EJ
  have S8:e∈(entries.filter fun e => !seen.contains e.born):=by rw[← hE];exact Array.getElem_mem hq
  simp only[Array.mem_filter]at S8
  obtain⟨OZ,OY⟩:=S8
  obtain⟨i3,x2,hi3,hx3,ru,yz,ry,abo⟩:=aa9 e (by simpa using OZ)
  have adn:x2.1 ∉ done:=fun h=>by have:=abo.2 h;rw[this]at OY;cases OY
  have abr:=YU x2.1 x2.2 ru adn
  simp only[O9,Bool.false_eq_true,if_false,Array.empty_append,Sem.run_bind]
  rw[RN]
  have iq:(setObj it (.mapIter (some b) clock (seen.push e.born) clock)).run P w1 = .ok () { w1 with heap:=w1.heap.setIfInBounds it (.mapIter (some b) clock (seen.push e.born) clock) }:=by
   have:w1.heap[it]?=some (.mapIter (some b) clock seen clock):=by rcases zK with rfl|rfl <;> exact Ll
   simp[setObj,Sem.run,this]
  simp only[Result.andThen_ok,EJ,Sem.run_bind,iq,Sem.run_pure,yz,ry]
  have OK:Sat G { w1 with heap:=w1.heap.setIfInBounds it (.mapIter (some b) clock (seen.push e.born) clock) } (Hf x2.1):=by
   have acI:Sat G w1 (ae it (.mapIter (some b) clock seen clock)::ae b (.map entries clock)::H.eraseIdx i):=by
    have h7:Sat G w (ae it (.mapIter (some b) clock seen clock)::ae b (.map entries clock)::H.eraseIdx i):=by
     refine⟨hT,hO,RS,hh,ef,?_⟩
     have h8:star (star (ae b (.map entries clock)) (ae it (.mapIter (some b) clock seen clock))) (Sep (H.eraseIdx i)) hh:=⟨h1,h2,⟨h3,h4,nw,Lk,RM,Db⟩,hB,XJ,hj⟩
     exact Az (kV h8)
    rcases zK with rfl|rfl
    ·exact h7
    ·exact h7.draw _
   have h9:=acI.BQ (o' := .mapIter (some b) clock (seen.push e.born) clock)
   have h10:=oO i _ _ H [] (Hf x2.1) (hp _) hi
   refine(h9.cN ?_).cN (ao.perm (by simpa using h10.symm))
   refine(ao.perm (List.Perm.swap _ _ _)).trans ?_
   refine ao.fold (B:=[_,_]) fun h hs=>⟨h,sub.refl h,entries,clock,seen.push e.born,⟨entries,clock,rfl,rC,kf,lh,HF⟩,?_,?_,?_⟩
   ·intro i2 e2 y2 yF AW
    have OT:=Ji i2 e2 y2 yF AW
    simp only[Array.contains_eq_mem,Array.mem_push,decide_eq_true_eq,List.mem_cons]at OT ⊢
    constructor
    ·rintro(h|h)
     ·exact .inr (OT.1 h)
     ·left
      -- the borns are one, so the entries are
      have RY:(entries.toList.map (·.born))[i2]?=(entries.toList.map (·.born))[i3]? := by simp only[List.getElem?_map,yF,hi3,Option.map_some,h]
      have X2:i2=i3:=(List.getElem?_inj (by
       have:i2<entries.toList.length:=by
        rcases Nat.lt_or_ge i2 entries.toList.length with h|h
        ·exact h
        ·rw[List.getElem?_eq_none h]at yF;cases yF
       rw[List.length_map];exact this) HF).1 RY
      subst X2
      rw[hx3]at AW;cases AW;rfl
    ·rintro(h|h)
     ·right
      have RY:(es.map (·.1))[i2]?=(es.map (·.1))[i3]? := by simp only[List.getElem?_map,AW,hx3,Option.map_some,h]
      have X2:i2=i3:=(List.getElem?_inj (by
       have:i2<es.length:=by
        rcases Nat.lt_or_ge i2 es.length with h|h
        ·exact h
        ·rw[List.getElem?_eq_none h]at AW;cases AW
       rw[List.length_map];exact this) kf).1 RY
      subst X2
      rw[hi3]at yF;cases yF;rfl
     ·exact .inl (OT.2 h)
   ·intro key abh
    simp only[List.head?_cons,Option.some.injEq]at abh
    subst abh
    exact⟨e,by simpa using OZ,yz,by simp⟩
   ·exact fz (fun _ h=>h) (fun _ h=>eU h) hs
  exact⟨hS _ _ OK,abr _ _ (ha.put hd _) OK (hS _ _ OK)⟩
end
end Go.SL
namespace Go.SL
section
variable{P:Program}{U:Tr}[hU:fV P U]{f:FuncId}{n:Nat}{R:Ending→World→Prop}{G:cI}{k:List Item}{L:fD}{H H':List HP}{S:World→Prop}{all:Array Oper}{rest:Pl}{ty:TypeId}{pos:String}{af:Array Edge}{gd:Option (Nat × Bool)}{m:Bool}{d:Tmp}
def xO{g:FuncId}{fn:Func}{e:Array Value→Sem Value}{vs:Array Value}{w:World}(hf:P.funcs[g]?=some fn)(hb:fn.body=none)(hn:(fn.name == "runtime.NumGoroutine")=false)(px:(Extern.findNext fn).isNone=true)(he:Extern.find fn=some e) :
  (callFunc g vs).run P w=((e vs).run P w).andThen fun v w' => .ok (.value v) w':=by
 have adi:Extern.findNext fn=none:=Option.isNone_iff_eq_none.1 px
 simp only[callFunc,Sem.run_bind,run_program,Result.andThen_ok,hf,hn,hb,Option.isNone_none,Bool.false_eq_true,if_false,if_true,run_mark,adi,he,Sem.run_pure]
def FP{κ:Type}[DecidableEq κ]{kv:κ→Value}{g:FuncId}{fn:Func}{args:Array Operand}{xr:Array TypeId}{t:TypeId}{b:Nat}{es:List (κ × Value)}(i:Nat)(hd:Nat.blt d n=true)(hf:P.funcs[g]?=some fn)(hb:fn.body=none)(hn:(fn.name == "runtime.NumGoroutine")=false)(px:(Extern.findNext fn).isNone=true)(he:Extern.find fn=some Extern.MapsClone.clone)(gS:Gq L args.toList [] = .mk [.iface t (.map (some b))])(hi:cE H i=some (aQ kv b es))(hS:∀b' w,Sat G w (aQ kv b' es::H)→Sx rest S w)(h:∀b',J P f n R G S all rest k ((d,.iface t (.map (some b')))::L) (aQ kv b' es::H)) :
  J P f n R G S all (.cons false true ⟨some d,.call { callee := .value (.func g),args:=args,argTypes:=xr },ty,pos,af,gd⟩ rest) k L H:=by
 refine oy hd (fun u H1=>∃b',u = .iface t (.map (some b'))∧H1=aQ kv b' es::H) (fun a w ha hw=>?_) ?_ ?_
 ·obtain⟨o,hm,Lt⟩:=hw.o5 hi
  have zN:=hm
  obtain⟨entries,clock,rfl,rC,kf,lh,HF⟩:=hm
  refine⟨_,{ w with heap:=w.heap.push (.map entries clock) },_,?_,⟨w.heap.size,rfl,rfl⟩,?_⟩
  ·simp only[execOp,resolve,Sem.run_bind,Act.eval,Deferred.ofValue,Sem.run_pure,Result.andThen_ok,invoke]
   rw[show(args.map fun x=>a.eval x)=args.map a.eval from rfl]at *
   have hav:=nh ha _ _ gS
   rw[show Array.map a.eval args = #[.iface t (.map (some b))]from hav]
   simp only[Array.empty_append,Array.append_empty]
   rw[xO hf hb hn px he]
   have lH:Extern.MapsClone.clone #[.iface t (.map (some b))]=(getObj b >>= fun o=>match o with
     | .map entries clock=>newObj (.map entries clock) >>= fun r=>pure (.iface t (.map (some r)))
     | _=>stuck "maps.clone: a map expected"):=rfl
   rw[lH]
   simp only[Sem.run_bind,run_getObj_map Lt,Result.andThen_ok,run_newObj,Sem.run_pure]
  ·have h3:=hw.alloc (.map entries clock)
   exact h3.cN (ao.fold (B:=[_]) fun h hs=>⟨h,sub.refl h,_,zN,eU hs⟩)
 ·rintro u H1 w⟨b',rfl,rfl⟩ hw;exact hS b' w hw
 ·rintro u H1⟨b',rfl,rfl⟩;exact h b'
def Qg{x:Operand}{xt t:TypeId}{bQ:Ty}{v:Value}(hd:Nat.blt d n=true)(hx:ev L x=some (.iface t v))(ht:U.get t=some bQ)(hni:(match bQ.gy with | .interface _=>false|_=>true)=true)(h:J P f n R G S all rest k ((d,v)::L) H):J P f n R G S all (.cons m true ⟨some d,.typeAssert x xt t false,ty,pos,af,gd⟩ rest) k L H :=
 du hd (fun a ha w=>by
  simp only[execOp,ha.ev hx,Instr.typeAssert,Sem.run_bind,run_underlying ht,Result.andThen_ok]
  cases hu:bQ.gy <;> simp_all) h
def Mq{x:Operand}{t:TypeId}{bQ:Ty}{v:Value}(hd:Nat.blt d n=true)(hx:ev L x=some v)(ht:U.get t=some bQ)(hni:(match bQ.gy with | .interface _=>false|_=>true)=true)(h:J P f n R G S all rest k ((d,.iface t v)::L) H):J P f n R G S all (.cons m true ⟨some d,.makeInterface t x,ty,pos,af,gd⟩ rest) k L H :=
 du hd (fun a ha w=>by
  simp only[execOp,ha.ev hx,Instr.makeInterface,Sem.run_bind,run_underlying ht,Result.andThen_ok]
  cases hu:bQ.gy <;> simp_all) h
def Row(w:World)(b:Nat):Prop:=∃l e,w.heap[b]?=some (cl l e)
def DD{b1 o1 b2 o2:Nat}{w:World}(h1:Row w b1)(h2:Row w b2):(sameAddr ⟨b1,o1,none⟩ ⟨b2,o2,none⟩).run P w = .ok (decide (b1=b2∧o1=o2)) w:=by
 obtain⟨l1,e1,nw⟩:=h1
 obtain⟨l2,e2,pF⟩:=h2
 unfold sameAddr
 by_cases hb:b1=b2
 ·subst hb
  simp only[beq_self_eq_true,if_true,Sem.run_pure,true_and]
  congr 1
  rw[Bool.eq_iff_iff];simp
 ·have bZ:(b1 == b2)=false:=by simpa using hb
  have f1:∀o,w.frozen? ⟨b1,o,none⟩=false:=fun o=>lE nw
  have f2:∀o,w.frozen? ⟨b2,o,none⟩=false:=fun o=>lE pF
  have s1:w.shape? b1=some (e1,l1.length):=by simp[World.shape?,nw,cl]
  have s2:w.shape? b2=some (e2,l2.length):=by simp[World.shape?,pF,cl]
  simp[bZ,f1,f2,noView,viewAt,s1,s2,mayBeOne,stringish,hb]
def Sv{x y:Operand}{t yt el:TypeId}{bQ te:Ty}{b1 o1 b2 o2:Nat}(hd:Nat.blt d n=true)(hx:ev L x=some (.pointer (some ⟨b1,o1,none⟩)))(hy:ev L y=some (.pointer (some ⟨b2,o2,none⟩)))(ht:U.get t=some bQ)(hu:bQ.gy = .pointer el)(he:U.get el=some te)(iY:Nat.beq te.info.size 0=false)(h1:∀w,Sat G w H→Row w b1)(h2:∀w,Sat G w H→Row w b2)(h:J P f n R G S all rest k ((d,.bool (decide (b1=b2∧o1=o2)))::L) H):J P f n R G S all (.cons false true ⟨some d,.binOp .eql t x y yt,ty,pos,af,gd⟩ rest) k L H :=
 kL hd (fun a w ha hw=>by
  have hr:=DD (P:=P) (o1:=o1) (o2:=o2) (h1 w hw) (h2 w hw)
  have bZ:te.info.size≠0:=Nat.ne_of_beq_eq_false iY
  have heq:(Op.equal t (.pointer (some ⟨b1,o1,none⟩)) (.pointer (some ⟨b2,o2,none⟩))).run P w = .ok (decide (b1=b2∧o1=o2)) w:=by
   unfold Op.equal Op.maxDepth Op.equalIn
   simp only[Sem.run_bind,run_underlying ht,Result.andThen_ok,hu,run_sizeOf he,ne_eq,bZ,not_false_eq_true,if_true,hr]
  have hg:(eqGuard .eql t x y (.pointer (some ⟨b1,o1,none⟩)) (.pointer (some ⟨b2,o2,none⟩))).run P w = .ok () w:=by simp[eqGuard]
  have hb:(binOp .eql t (.pointer (some ⟨b1,o1,none⟩)) (.pointer (some ⟨b2,o2,none⟩))).run P w = .ok (.bool (decide (b1=b2∧o1=o2))) w:=by
   simp only[binOp,Sem.run_bind,heq,Result.andThen_ok,Sem.run_pure]
  simp only[execOp,ha.ev hx,ha.ev hy,Sem.run_bind,hg,hb,Result.andThen_ok,Sem.run_pure]) h
def J2{x:Operand}{t elem:TypeId}{bQ te:Ty}{z:Value}{b o nn cap:Nat}{l l':List Value}{e:TypeId}(i:Nat)(hS:∀w,Sat G w H'→Sx rest S w)(hx:ev L x=some (.slice (some ⟨b,o,none⟩) nn cap))(ht:U.get t=some bQ)(hu:bQ.gy = .slice elem)(he:U.get elem=some te)(hz:te.info.zero=some z)(ML:Nat.beq (bo z).length te.info.size=true)(gI:iL (bo z)=true)(hi:cE H i=some (ae b (cl l e)))(yC:o+nn*te.info.size≤l.length)(RC:l'=l.take o++(List.replicate nn (bo z)).flatten++l.drop (o+nn*te.info.size))(hp:lL i (ae b (cl l' e)) H [] = .mk H')(h:J P f n R G S all rest k L H'):J P f n R G S all (.cons false true ⟨none,.call { callee := .builtin .clear,args := #[x],argTypes := #[t] },ty,pos,af,gd⟩ rest) k L H:=by
 intro a w ha hw _
 have acA:(bo z).length=te.info.size:=Nat.eq_of_beq_eq_true ML
 have HD:(Builtin.zeroCells z.cells nn).toList=(List.replicate nn (bo z)).flatten:=by
  have pE:z.cells.size=(bo z).length:=by rw[dP];simp
  unfold Builtin.zeroCells
  simp only[Array.toList_map,Array.toList_range,pE]
  rw[dP]
  induction nn with
  | zero=>simp
  | succ nn ih =>
   clear ih
   rw[List.replicate_succ',List.flatten_append]
   have adB:∀q,List.map (fun i=>(bo z).toArray[i%(bo z).length]!) (List.range (q*(bo z).length))=(List.replicate q (bo z)).flatten:=by
    intro q
    induction q with
    | zero=>simp
    | succ q ih =>
     rw[List.replicate_succ',List.flatten_append,← ih,Nat.succ_mul,List.range_add,List.map_append]
     congr 1
     simp only[List.map_map,List.flatten_cons,List.flatten_nil,List.append_nil]
     apply List.ext_getElem?
     intro j
     by_cases hj:j<(bo z).length
     ·simp only[List.getElem?_map,List.getElem?_range hj,Option.map_some,Function.comp]
      rw[Nat.mul_comm,Nat.mul_add_mod,Nat.mod_eq_of_lt hj]
      simp[hj]
     ·rw[List.getElem?_eq_none (by simp;omega),List.getElem?_eq_none ag]
   have:=adB (nn+1)
   rw[List.replicate_succ',List.flatten_append]at this
   exact this
 have hlen:((List.replicate nn (bo z)).flatten).length=nn*te.info.size:=by simp[acA]
 have cL:=gE (P:=P) ((List.replicate nn (bo z)).flatten) 0 o l w (hw.tS hi) (by rw[hlen];simpa using yC) (fun u hu=>by
  simp only[List.mem_flatten,List.mem_replicate]at hu
  obtain⟨l2,⟨_,rfl⟩,hu⟩:=hu
  exact v7 gI u hu)
 simp only[Nat.add_zero,hlen,← RC]at cL
 have hs:=hw.put hi hp
 refine .inl ⟨.inl rfl,.inr ⟨rfl,?_⟩⟩
 by_cases h0:nn=0
 ·subst h0
  have hll:l'=l:=by rw[RC];simp
  subst hll
  have hss:Sat G w H':=by
   have hb:=hw.tS hi
   have cW:b<w.heap.size:=by
    rcases Nat.lt_or_ge b w.heap.size with h'|h'
    ·exact h'
    ·rw[Array.getElem?_eq_none h']at hb;cases hb
   have Lt:w.heap[b]=cl l' e:=by rw[Array.getElem?_eq_getElem cW]at hb;exact Option.some.inj hb
   have:w.heap.setIfInBounds b (cl l' e)=w.heap:=by rw[← Lt];simp[Array.setIfInBounds,cW]
   rw[this]at hs;exact hs
  have:(execOp a.eval ⟨none,.call { callee := .builtin .clear,args := #[x],argTypes := #[t] },ty,pos,af,gd⟩).run P w = .ok (.value (.tuple #[])) w:=by
   simp[execOp,resolve,invoke,builtin,ha.ev hx,Builtin.clear_,run_underlying ht,hu]
  exact iB this ⟨hS _ hss,h a _ ha hss (hS _ hss)⟩
 ·have:(execOp a.eval ⟨none,.call { callee := .builtin .clear,args := #[x],argTypes := #[t] },ty,pos,af,gd⟩).run P w = .ok (.value (.tuple #[])) { w with heap:=w.heap.setIfInBounds b (cl l' e) }:=by
   obtain⟨q,rfl⟩:∃q,nn=q+1:=⟨nn-1,ag⟩
   simp only[execOp,resolve,invoke,builtin,Sem.run_bind,Sem.run_pure,Result.andThen_ok,List.map_toArray,List.map_cons,List.map_nil,ha.ev hx,Builtin.clear_,List.getElem?_toArray,List.getElem?_cons_zero,run_underlying ht,hu,dX he hz,HD,cL]
  exact iB this ⟨hS _ hs,h a _ ha hs (hS _ hs)⟩
end
end Go.SL
