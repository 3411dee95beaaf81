import Derived.OrdersHeld
import Derived.KernelRfl
import Derived.Laws.Cells
import Derived.Laws.CopyRow
import Derived.Laws.AppendOwn
import Derived.Laws.CopyOwn
import Derived.OrdersIn
import Derived.RangeFuncLeaves
import Derived.Laws.Strings
set_option linter.defProp false
namespace Go.SL
def zr.{u} {α:Sort u} {a:α}:a=a:=Eq.refl a
def ag{p:Prop}(h:p:=by omega):p:=h
def ak{p:Prop}(h:p:=by kernel_rfl):p:=h
def mO{p:Prop}(h:p:=by(intro _ _ _ _ _;exact trivial)):p:=h
def bD{p:Prop}(h:p:=by(intro _ _ _;exact trivial)):p:=h
def gB{p:Prop}(h:p:=by(intro _ _;exact trivial)):p:=h
abbrev Hp:=Nat→Option Obj
abbrev HP:=Hp→Prop
def emp:HP:=fun h=>∀c,h c=none
def ae(b:Nat)(o:Obj):HP:=fun h=>∀c,h c=if c=b then some o else none
def star(A B:HP):HP:=fun h=>∃h1 h2:Hp,A h1∧B h2∧(∀b,h1 b=none∨h2 b=none)∧∀b,h b=(h1 b).or (h2 b)
def Sep:List HP→HP
 | []=>emp
 | A::l=>star A (Sep l)
def ex{α:Type}(A:α→HP):HP:=fun h=>∃x,A x h
def sub(h' h:Hp):Prop:=∀b o,h' b=some o→h b=some o
def cl(l:List Value)(e:TypeId):Obj := .cells l.toArray e (0,0)
def sub.refl(h:Hp):sub h h:=fun _ _ e=>e
def sub.trans{a b c:Hp}(h1:sub a b)(h2:sub b c):sub a c:=fun x o e=>h2 x o (h1 x o e)
def eh{A B:HP}{h:Hp}(hs:star A B h):star B A h:=by
 obtain⟨h1,h2,ha,hb,hd,he⟩:=hs
 refine⟨h2,h1,hb,ha,fun b=>(hd b).symm,fun b=>?_⟩
 rw[he b]
 rcases hd b with e|e <;> rw[e] <;> simp
def ko{A B C:HP}{h:Hp}(hs:star A (star B C) h):star (star A B) C h:=by
 obtain⟨h1,h2,ha,⟨h3,h4,hb,hc,hd',MT⟩,hd,he⟩:=hs
 refine⟨fun b=>(h1 b).or (h3 b),h4,⟨h1,h3,ha,hb,fun b=>?_,fun b=>rfl⟩,hc,fun b=>?_,fun b=>?_⟩
 ·rcases hd b with e|e
  ·exact .inl e
  ·rw[MT b]at e;simp at e;exact .inr e.1
 ·rcases hd b with e|e
  ·rcases hd' b with e'|e'
   ·left;simp[e,e']
   ·exact .inr e'
  ·rw[MT b]at e;simp at e;exact .inr e.2
 ·rw[he b,MT b];simp[Option.or_assoc]
def fz{A A' B B':HP}{h:Hp}(ha:∀h,A h→A' h)(hb:∀h,B h→B' h)(hs:star A B h):star A' B' h:=by
 obtain⟨h1,h2,h3,h4,hd,he⟩:=hs
 exact⟨h1,h2,ha _ h3,hb _ h4,hd,he⟩
def kV{A B C:HP}{h:Hp}(hs:star (star A B) C h):star A (star B C) h:=by
 have h1:=eh hs
 have h2:star C (star B A) h:=fz (fun _ h=>h) (fun _ h=>eh h) h1
 have h3:=ko h2
 have h4:=eh h3
 exact fz (fun _ h=>h) (fun _ h=>eh h) h4
def Az{A B C:HP}{h:Hp}(hs:star A (star B C) h):star B (star A C) h:=by
 have h1:=ko hs
 exact kV (fz (fun _ h=>eh h) (fun _ h=>h) h1)
def uj{H H':List HP}(hp:H.Perm H'):∀h,Sep H h→Sep H' h:=by
 induction hp with
 | nil=>exact fun _ h=>h
 | cons A _ ih=>exact fun h hs=>fz (fun _ h=>h) ih hs
 | swap A B l=>exact fun h hs=>Az hs
 | trans _ _ ih1 Hl=>exact fun h hs=>Hl h (ih1 h hs)
def tm{A:HP}{h:Hp}(ha:A h):star A emp h :=
 ⟨h,fun _=>none,ha,fun _=>rfl,fun _ => .inr rfl,fun b=>by simp⟩
def AA{A:HP}{h:Hp}(hs:star A emp h):A h:=by
 obtain⟨h1,h2,ha,hb,hd,he⟩:=hs
 have:h=h1:=by funext b;rw[he b,hb b];simp
 rw[this];exact ha
def yU{B:HP}{h:Hp}(hs:star emp B h):B h:=AA (eh hs)
def mG{H1 H2:List HP}{h:Hp}(hs:Sep (H1++H2) h):star (Sep H1) (Sep H2) h:=by
 induction H1 generalizing h with
 | nil=>exact eh (tm hs)
 | cons A l ih=>exact ko (fz (fun _ h=>h) (fun _ h=>ih h) hs)
def jI{H1 H2:List HP}{h:Hp}(hs:star (Sep H1) (Sep H2) h):Sep (H1++H2) h:=by
 induction H1 generalizing h with
 | nil=>exact yU hs
 | cons A l ih=>exact fz (fun _ h=>h) (fun _ h=>ih h) (kV hs)
def eU{A:HP}{h:Hp}(hs:Sep [A] h):A h:=AA hs
def gk{A:HP}{h:Hp}(ha:A h):Sep [A] h:=tm ha
def ao(H H':List HP):Prop:=∀h,Sep H h→∃h':Hp,sub h' h∧Sep H' h'
def ao.refl(H:List HP):ao H H:=fun h hs=>⟨h,sub.refl h,hs⟩
def ao.trans{H1 H2 H3:List HP}(a:ao H1 H2)(b:ao H2 H3):ao H1 H3:=fun h hs=>by
 obtain⟨h',s1,h1⟩:=a h hs
 obtain⟨h'',s2,h2⟩:=b h' h1
 exact⟨h'',s2.trans s1,h2⟩
def ao.perm{H H':List HP}(hp:H.Perm H'):ao H H':=fun h hs=>⟨h,sub.refl h,uj hp h hs⟩
def km{A B:HP}{h:Hp}(hs:star A B h):∃h',sub h' h∧A h':=by
 obtain⟨h1,h2,ha,_,_,he⟩:=hs
 exact⟨h1,fun b o e=>by rw[he b,e];rfl,ha⟩
def xG{A B:HP}{h:Hp}(hs:star A B h):∃h',sub h' h∧B h':=km (eh hs)
def ao.drop(A:HP)(H:List HP):ao (A::H) H:=fun _ hs=>xG hs
def pO{A B B':HP}{h:Hp}(hb:∀h,B h→∃h',sub h' h∧B' h')(hs:star A B h):∃h',sub h' h∧star A B' h':=by
 obtain⟨h1,h2,ha,pF,hd,he⟩:=hs
 obtain⟨h3,s3,QF⟩:=hb _ pF
 refine⟨fun b=>(h1 b).or (h3 b),fun b o e=>?_,h1,h3,ha,QF,fun b=>?_,fun b=>rfl⟩
 ·rw[he b]
  rcases hd b with e1|e1
  ·simp only[e1,Option.none_or]at e ⊢;exact s3 b o e
  ·have:h3 b=none:=by
    cases A9:h3 b with
    | none=>rfl
    | some x=>have:=s3 b x A9;rw[e1]at this;cases this
   simp only[this,e1,Option.or_none]at e ⊢;exact e
 ·rcases hd b with e1|e1
  ·exact .inl e1
  ·right
   cases A9:h3 b with
   | none=>rfl
   | some x=>have:=s3 b x A9;rw[e1]at this;cases this
def ao.cons{H H':List HP}(A:HP)(a:ao H H'):ao (A::H) (A::H'):=fun _ hs=>pO a hs
def ao.head{A:HP}{H B:List HP}(hA:∀h,A h→∃h',sub h' h∧Sep B h'):ao (A::H) (B++H):=fun h hs=>by
 obtain⟨h',s,OL⟩:=pO hA (eh hs)
 exact⟨h',s,jI (eh OL)⟩
def ao.fold{A:HP}{H B:List HP}(hA:∀h,Sep B h→∃h',sub h' h∧A h'):ao (B++H) (A::H):=fun h hs=>by
 obtain⟨h',s,OL⟩:=pO hA (eh (mG hs))
 exact⟨h',s,eh OL⟩
def ao.append{H1 H2:List HP}(F:List HP)(a:ao H1 H2):ao (H1++F) (H2++F):=fun h hs=>by
 obtain⟨h',s,OL⟩:=pO a (eh (mG hs))
 exact⟨h',s,jI (eh OL)⟩
structure cI where
 tape:Nat→Question→Nat
 os:Os
 output:Array (Nat × ByteArray)
 ro:Option Nat:=none
 lo:Nat:=0
 ds:List Nat:=[]
def Sat(G:cI)(w:World)(H:List HP):Prop :=
 (w.tape=G.tape∧G.lo≤w.drawn)∧w.os=G.os∧w.output=G.output∧∃h:Hp,(∀b o,h b=some o→w.heap[b]?=some o)∧Sep H h
def Sat.cN{G:cI}{w:World}{H H':List HP}(hs:Sat G w H)(he:ao H H'):Sat G w H':=by
 obtain⟨a,b,c,h,hw,hh⟩:=hs
 obtain⟨h',s,hh'⟩:=he h hh
 exact⟨a,b,c,h',fun x o e=>hw x o (s x o e),hh'⟩
def Sat.head{G:cI}{w:World}{A:HP}{H:List HP}(hs:Sat G w (A::H)):∃h:Hp,(∀b o,h b=some o→w.heap[b]?=some o)∧A h:=by
 obtain⟨a,b,c,h,hw,hh⟩:=hs
 obtain⟨h',s,hh'⟩:=km hh
 exact⟨h',fun x o e=>hw x o (s x o e),hh'⟩
def di{H:List HP}{i:Nat}{A:HP}(h:H[i]?=some A):H.Perm (A::H.eraseIdx i):=by
 induction H generalizing i with
 | nil=>simp at h
 | cons B l ih =>
  cases i with
  | zero=>simp at h;subst h;simp
  | succ i =>
   simp at h
   simp only[List.eraseIdx_cons_succ]
   exact((ih h).cons B).trans (List.Perm.swap _ _ _)
def Sat.get{G:cI}{w:World}{H:List HP}(hs:Sat G w H){i:Nat}{b:Nat}{o:Obj}(hi:H[i]?=some (ae b o)):w.heap[b]?=some o:=by
 obtain⟨h,hw,hh⟩:=(hs.cN (ao.perm (di hi))).head
 exact hw b o (by rw[hh b];simp)
def Sat.lt{G:cI}{w:World}{H:List HP}(hs:Sat G w H){i:Nat}{b:Nat}{o:Obj}(hi:H[i]?=some (ae b o)):b<w.heap.size:=by
 have:=hs.get hi
 rcases Nat.lt_or_ge b w.heap.size with h|h
 ·exact h
 ·rw[Array.getElem?_eq_none h]at this;cases this
def Sat.ne{G:cI}{w:World}{b1 b2:Nat}{o1 o2:Obj}{H:List HP}(hs:Sat G w (ae b1 o1::ae b2 o2::H)):b1≠b2:=by
 obtain⟨_,_,_,h,hw,hh⟩:=hs
 obtain⟨h1,h2,ha,hb,hd,he⟩:=hh
 obtain⟨h3,s,QF⟩:=km hb
 intro e
 have e1:h1 b1=some o1:=by rw[ha b1];simp
 have e2:h2 b2=some o2:=s b2 o2 (by rw[QF b2];simp)
 rcases hd b1 with e3|e3
 ·rw[e1]at e3;cases e3
 ·rw[e,e2]at e3;cases e3
def Sat.draw{G:cI}{w:World}{H:List HP}(hs:Sat G w H)(n:Nat)(hn:w.drawn≤n:=by first|exact Nat.le_succ _|exact Nat.le_refl _|omega):Sat G { w with drawn:=n } H:=⟨⟨hs.1.1,Nat.le_trans hs.1.2 hn⟩,hs.2⟩
def Sat.alloc{G:cI}{w:World}{H:List HP}(hs:Sat G w H)(o:Obj):Sat G { w with heap:=w.heap.push o } (ae w.heap.size o::H):=by
 obtain⟨a,b,c,h,hw,hh⟩:=hs
 have cW:∀b,h b≠none→b<w.heap.size:=fun b hb=>by
  cases hx:h b with
  | none=>exact absurd hx hb
  | some x =>
   have:=hw b x hx
   rcases Nat.lt_or_ge b w.heap.size with h|h
   ·exact h
   ·rw[Array.getElem?_eq_none h]at this;cases this
 refine⟨a,b,c,fun x=>if x=w.heap.size then some o else h x,fun x o' e=>?_,fun x=>if x=w.heap.size then some o else none,h,fun c=>rfl,hh,fun x=>?_,fun x=>?_⟩
 ·show(w.heap.push o)[x]?=some o'
  by_cases hx:x=w.heap.size
  ·simp only[hx,if_true]at e;cases e;subst hx;simp
  ·simp only[hx,if_false]at e
   have:=cW x (by rw[e];simp)
   rw[Array.getElem?_push_lt this,← Array.getElem?_eq_getElem this]
   exact hw x o' e
 ·by_cases hx:x=w.heap.size
  ·right
   cases hn:h x with
   | none=>rfl
   | some y=>exact absurd (cW x (by rw[hn];simp)) ag
  ·left;simp[hx]
 ·by_cases hx:x=w.heap.size <;> simp[hx]
def Sat.BQ{G:cI}{w:World}{H:List HP}{b:Nat}{o o':Obj}(hs:Sat G w (ae b o::H)) :
  Sat G { w with heap:=w.heap.setIfInBounds b o' } (ae b o'::H):=by
 have cW:b<w.heap.size:=hs.lt (i:=0) rfl
 obtain⟨a,b',c,h,hw,h1,h2,ha,hb,hd,he⟩:=hs
 have vY:h2 b=none:=by
  rcases hd b with e|e
  ·rw[ha b]at e;simp at e
  ·exact e
 refine⟨a,b',c,fun x=>if x=b then some o' else h x,fun x y e=>?_,fun x=>if x=b then some o' else none,h2,fun _=>rfl,hb,fun x=>?_,fun x=>?_⟩
 ·show(w.heap.setIfInBounds b o')[x]?=some y
  by_cases hx:x=b
  ·simp only[hx,if_true]at e;cases e;subst hx;simp[cW]
  ·simp only[hx,if_false]at e
   rw[Array.getElem?_setIfInBounds_ne (Ne.symm hx)]
   exact hw x y e
 ·by_cases hx:x=b
  ·right;rw[hx];exact vY
  ·left;simp[hx]
 ·by_cases hx:x=b
  ·simp[hx]
  ·simp only[hx,if_false,Option.none_or]
   rw[he x,ha x];simp[hx]
inductive ab7 where
 | mk (A:HP) (rest:List HP)
 | no
def R1:List HP→List HP→HP→ab7
 | [],l,A => .mk A l
 | x::acc,l,A=>R1 acc (x::l) A
def N5:Nat→List HP→List HP→ab7
 | _,[],_ => .no
 | 0,A::l,acc=>R1 acc l A
 | i+1,A::l,acc=>N5 i l (A::acc)
inductive ab8 where
 | mk (pre rest:List HP)
 | no
def R4:List HP→List HP→List HP→ab8
 | [],l,r => .mk l r
 | x::acc,l,r=>R4 acc (x::l) r
def adj:List Nat→Nat→Nat
 | [],i=>i
 | r::rs,i=>bif Nat.blt r i then Nat.sub (adj rs i) 1 else adj rs i
def tA:List Nat→List Nat→List HP→List HP→ab8
 | [],_,H,acc=>R4 acc [] H
 | i::is,gone,H,acc=>match N5 (adj gone i) H []with
  | .mk A r=>tA is (i::gone) r (A::acc)
  | .no => .no
def R0(acc l:List HP)(A B:HP)(r:List HP)(h:R1 acc l A = .mk B r):B=A∧r=acc.reverse++l:=by
 induction acc generalizing l with
 | nil=>simp[R1]at h;simp[h]
 | cons x acc ih=>have:=ih (x::l) h;simp[this]
def AO(i:Nat)(H acc:List HP)(A:HP)(r:List HP)(h:N5 i H acc = .mk A r):(acc.reverse++H).Perm (A::r):=by
 induction H generalizing i acc with
 | nil=>cases i <;> simp[N5]at h
 | cons B l ih =>
  cases i with
  | zero =>
   obtain⟨rfl,rfl⟩:=R0 _ _ _ _ _ h
   exact List.perm_middle
  | succ i=>have:=ih i (B::acc) h;simpa using this
def R3(acc l r pre rest:List HP)(h:R4 acc l r = .mk pre rest):pre=acc.reverse++l∧rest=r:=by
 induction acc generalizing l with
 | nil=>simp[R4]at h;simp[h]
 | cons x acc ih=>have:=ih (x::l) h;simp[this]
def x8(is gone:List Nat)(H acc pre rest:List HP)(h:tA is gone H acc = .mk pre rest):(acc.reverse++H).Perm (pre++rest):=by
 induction is generalizing gone H acc with
 | nil =>
  obtain⟨rfl,rfl⟩:=R3 _ _ _ _ _ h
  simp
 | cons i is ih =>
  simp only[tA]at h
  split at h
  ·rename_i A r hr
   have h1:=AO _ _ _ _ _ hr
   have h2:=ih _ _ _ h
   refine List.Perm.trans ?_ h2
   simp only[List.reverse_cons,List.append_assoc,List.singleton_append]
   exact List.Perm.append_left _ (by simpa using h1)
  ·cases h
def Sat.pick{G:cI}{w:World}{H pre rest:List HP}(is:List Nat)(hs:Sat G w H)(h:tA is [] H [] = .mk pre rest):Sat G w (pre++rest) :=
 hs.cN (ao.perm (by simpa using x8 is [] H [] pre rest h))
def ao.pick{H pre rest:List HP}(is:List Nat)(h:tA is [] H [] = .mk pre rest):ao H (pre++rest) :=
 ao.perm (by simpa using x8 is [] H [] pre rest h)
def ao.bE{H pre rest:List HP}(is:List Nat)(h:tA is [] H [] = .mk pre rest):ao H pre :=
 (ao.pick is h).trans (fun _ hs=>km (mG hs))
def Sat.set{G:cI}{w:World}{H:List HP}{i:Nat}{b:Nat}{o o':Obj}(hs:Sat G w H)(hi:H[i]?=some (ae b o)) :
  Sat G { w with heap:=w.heap.setIfInBounds b o' } (ae b o'::H.eraseIdx i) :=
 (hs.cN (ao.perm (di hi))).BQ
def uT{w:World}{b:Nat}{l:List Value}{e:TypeId}{off:Nat}{v:Value}(h:w.heap[b]?=some (cl l e)) :
  w.setCell ⟨b,off,none⟩ v={ w with heap:=w.heap.setIfInBounds b (cl (l.set off v) e) }:=by
 have cW:b<w.heap.size:=by
  rcases Nat.lt_or_ge b w.heap.size with h'|h'
  ·exact h'
  ·rw[Array.getElem?_eq_none h']at h;cases h
 have hb:w.heap[b]=cl l e:=by rw[Array.getElem?_eq_getElem cW]at h;exact Option.some.inj h
 unfold World.setCell
 congr 1
 apply Array.ext
 ·simp
 ·intro i h1 h2
  by_cases hi:b=i
  ·subst hi
   simp[Array.getElem_modify,hb,cl]
  ·have h3:i<w.heap.size:=by simpa using h2
   rw[Array.getElem_modify,Array.getElem_setIfInBounds h3]
   simp[hi]
def dG{w:World}{b:Nat}{l:List Value}{e:TypeId}{off:Nat}(h:w.heap[b]?=some (cl l e)):w.cell? ⟨b,off,none⟩=l[off]? := by
 simp[World.cell?,h,cl]
def lE{w:World}{b:Nat}{l:List Value}{e:TypeId}{off:Nat}(h:w.heap[b]?=some (cl l e)):w.frozen? ⟨b,off,none⟩=false:=by
 simp only[World.frozen?,h,cl];simp
abbrev fD:=List (Nat × Value)
def dT:fD→Nat→Option Value
 | [],_=>none
 | (s,v)::l,t=>bif Nat.beq s t then some v else dT l t
def Has(n:Nat)(L:fD)(a:Act):Prop:=a.tmps.size=n∧True∧∀t v,dT L t=some v→a.tmps[t]?=some v
def ev(L:fD):Operand→Option Value
 | .tmp t=>dT L t
 | .const v=>some v
 | .func f=>some (.func (.func f) #[] #[])
 | .global g=>some (.pointer (some ⟨g,0,none⟩))
def Has.ev{n:Nat}{L:fD}{a:Act}{x:Operand}{v:Value}(h:Has n L a)(e:ev L x=some v):a.eval x=v:=by
 cases x with
 | tmp t=>simp only[SL.ev]at e;have:=h.2.2 t v e;simp[Act.eval,Array.getD_eq_getD_getElem?,this]
 | const c=>simp only[SL.ev]at e;cases e;rfl
 | global g=>simp only[SL.ev]at e;cases e;rfl
 | func f=>simp only[SL.ev]at e;cases e;rfl
def Has.put{n:Nat}{L:fD}{a:Act}{d:Nat}(h:Has n L a)(hd:Nat.blt d n=true)(v:Value):Has n ((d,v)::L) (a.put (some d) v):=by
 have hd':d<a.tmps.size:=by rw[h.1];simpa[Nat.blt_eq]using hd
 refine⟨by simpa[Act.put]using h.1,h.2.1,fun t u e=>?_⟩
 simp only[dT]at e
 cases hb:Nat.beq d t with
 | true =>
  have:d=t:=Nat.eq_of_beq_eq_true hb
  subst this
  simp only[hb,cond_true]at e
  cases e
  simp[Act.put,hd']
 | false =>
  simp only[hb,cond_false]at e
  have bZ:d≠t:=Nat.ne_of_beq_eq_false hb
  simp only[Act.put,Array.getElem?_setIfInBounds_ne bZ]
  exact h.2.2 t u e
def Has.sub{n:Nat}{L L':fD}{a:Act}(h:Has n L a)(hs:∀t v,dT L' t=some v→dT L t=some v):Has n L' a :=
 ⟨h.1,h.2.1,fun t v e=>h.2.2 t v (hs t v e)⟩
inductive Mh where
 | mk (vs:List Value)
 | no
def Cr:List Value→List Value→Mh
 | [],l => .mk l
 | x::acc,l=>Cr acc (x::l)
def Gq(L:fD):List Operand→List Value→Mh
 | [],acc=>Cr acc []
 | x::xs,acc=>match ev L x with
  | some v=>Gq L xs (v::acc)
  | none => .no
def rf(acc l vs:List Value)(h:Cr acc l = .mk vs):vs=acc.reverse++l:=by
 induction acc generalizing l with
 | nil=>simp[Cr]at h;simp[h]
 | cons x acc ih=>have:=ih (x::l) h;simp[this]
def X6{n:Nat}{L:fD}{a:Act}(ha:Has n L a)(xs:List Operand)(acc vs:List Value)(h:Gq L xs acc = .mk vs):vs=acc.reverse++xs.map a.eval:=by
 induction xs generalizing acc with
 | nil=>have:=rf _ _ _ h;simpa using this
 | cons x xs ih =>
  simp only[Gq]at h
  split at h
  ·rename_i v hv
   have:=ih _ h
   rw[this,List.map_cons,ha.ev hv]
   simp
  ·cases h
def nh{n:Nat}{L:fD}{a:Act}(ha:Has n L a)(xs:Array Operand)(vs:List Value)(h:Gq L xs.toList [] = .mk vs):xs.map a.eval=vs.toArray:=by
 have:=X6 ha _ _ _ h
 apply Array.ext'
 simp[this]
def mark(r:Nat):Deferred:={ target := .collected r,args := #[] }
def sP(G:cI)(n:Nat)(L:fD)(a:Act):Prop:=Has n L a∧a.defers=G.ds.map mark
def sP.ev{G:cI}{n:Nat}{L:fD}{a:Act}{x:Operand}{v:Value}(h:sP G n L a)(e:SL.ev L x=some v):a.eval x=v:=h.1.ev e
def sP.put{G:cI}{n:Nat}{L:fD}{a:Act}{d:Nat}(h:sP G n L a)(hd:Nat.blt d n=true)(v:Value):sP G n ((d,v)::L) (a.put (some d) v):=⟨h.1.put hd v,h.2⟩
def sP.sub{G:cI}{n:Nat}{L L':fD}{a:Act}(h:sP G n L a)(hs:∀t v,dT L' t=some v→dT L t=some v):sP G n L' a:=⟨h.1.sub hs,h.2⟩
def sP.get{G:cI}{n:Nat}{L:fD}{a:Act}(h:sP G n L a){t:Nat}{v:Value}(e:dT L t=some v):a.tmps[t]?=some v:=h.1.2.2 t v e
def fw(ro:Option Nat):Fence:={ fn:=fun _=>True,depth:=none,alive:=false,round:=ro }
def ve(P:Program)(ro:Option Nat)(m:Machine):m.fenced P (fw ro):=fun _ _=>⟨fun h=>by simp[fw]at h,.inl trivial,fun _ _=>trivial,fun _ h=>by simp[fw]at h⟩
def QX(ro:Option Nat)(n:Nat):(fw ro).room n:=fun _ h=>by simp[fw]at h
def HX{ro:Option Nat}{n:Nat}{P:Program}{f:FuncId}{args:Array Value}{w:World}{R:Ending→World→Prop}(h:Calls P f args w R):CallsIn (fw ro) n P f args w R :=
  ⟨trivial,fun cs _=>by
    obtain⟨e,w',fr,r,s,x⟩:=h cs
    refine⟨e,w',fr,r,?_,x⟩
    cases e with
    | returned v=>exact(StepsIn.of_steps s).mono fun m _=>ve P ro m
    | panicked c=>exact(StepsIn.of_steps s).mono fun m _=>ve P ro m
    | outgrown=>exact s⟩
def bf(ro:Option Nat)(f:FuncId)(a:Act)(k:List Item):Frame:=({ (default:Frame)with fn:=f,kind := .normal,roundOf:=ro }:Frame).atR a k
def Mg(P:Program)(f:FuncId)(R:Ending→World→Prop)(cs:List Frame)(m:Machine):Option Nat→Prop
 | none=>∃e w' fr,R e w'∧Comes P m (lone fr cs w') e∧fr.fn=f∧fr.leaving P w' e
 | some _=>∀c j9,cs=c::j9→∃v w',R (.returned v) w'∧Steps P m (lone (c.finish v) j9 w')
def Mg.of_steps{P:Program}{f:FuncId}{R:Ending→World→Prop}{cs:List Frame}{m m':Machine}{ro:Option Nat}(hs:Steps P m m')(h:Mg P f R cs m' ro):Mg P f R cs m ro:=by
 cases ro with
 | none=>obtain⟨e,w',fr,hR,hc,h1⟩:=h;exact⟨e,w',fr,hR,Comes.of_steps hs hc,h1⟩
 | some l=>intro c j9 pE;obtain⟨v,w',hR,hc⟩:=h c j9 pE;exact⟨v,w',hR,hs.trans hc⟩
def Ok(P:Program)(f:FuncId)(R:Ending→World→Prop)(ro:Option Nat)(k:List Item)(a:Act)(w:World):Prop :=
 ∀cs,Mg P f R cs (lone (bf ro f a k) cs w) ro
def K(P:Program)(f:FuncId)(n:Nat)(R:Ending→World→Prop)(G:cI)(k:List Item)(L:fD)(H:List HP):Prop :=
 ∀a w,sP G n L a→Sat G w H→Ok P f R G.ro k a w
def Qk(P:Program)(f:FuncId)(R:Ending→World→Prop)(ro:Option Nat)(k:List Item):Exit→Act→World→Prop
 | .normal,a,w=>Ok P f R ro k a w
 | _,_,_=>False
inductive Pl where
 | nil
 | cons (m g:Bool) (o:Oper) (rest:Pl)
 | fork (l r:Pl)
def Sx:Pl→(World→Prop)→World→Prop
 | .nil,_,_=>True
 | .cons _ _ _ _,S,w=>S w
 | .fork _ _,S,w=>S w
def Sx.of{rest:Pl}{S:World→Prop}{w:World}(h:S w):Sx rest S w:=by cases rest <;> first|exact trivial|exact h
def MK(P:Program)(ro:Option Nat)(S:World→Prop)(Q:Exit→Act→World→Prop)(all:Array Oper):Pl→Act→World→Prop
  | .nil,a,w=>Q .normal a w
  | .cons m g o rest,a,w =>
    ((g=true∨Region.wanted o (yielded all a.tmps)=true) ∧
      ((m=true∧∃v,(∀w,S w→(execOp a.eval o).run P w = .ok (.value v) w)∧MK P ro S Q all rest (a.put o.dst v) w) ∨
       (m=false∧o.wpIn (fw ro) 0 P a w (fun a' w'=>Sx rest S w'∧MK P ro S Q all rest a' w') Q))) ∨
    (g=false∧Region.wanted o (yielded all a.tmps)=false∧MK P ro S Q all rest (a.put o.dst undef) w)
  | .fork l r,a,w=>MK P ro S Q all l a w∧MK P ro S Q all r a w
def J(P:Program)(f:FuncId)(n:Nat)(R:Ending→World→Prop)(G:cI)(S:World→Prop)(all:Array Oper)(rest:Pl)(k:List Item)(L:fD)(H:List HP):Prop :=
 ∀a w,sP G n L a→Sat G w H→Sx rest S w→MK P G.ro S (Qk P f R G.ro k) all rest a w
def tF:Option (Nat × Bool)→Bool
 | none=>true
 | _=>false
def items:List Oper→Pl
 | [] => .nil
 | o::l => .cons false (tF o.guard) o (items l)
def xL{P:Program}{ρ:Operand→Value}{o:Oper}{w w':World}{v:Value}(ro:Option Nat)(h:(execOp ρ o).run P w = .ok (.value v) w'):o.semAt ro ρ=execOp ρ o:=by
 refine Oper.semAt_eq ro ρ o fun c hc=>?_
 obtain⟨d,op,ty,pos,af,gd⟩:=o
 simp only at hc
 subst hc
 simp only[execOp,Sem.run_bind]at h
 cases hr:(resolve ρ c ty).run P w with
 | ok d' w1=>rw[hr]at h;simp at h
 | halt x w1=>rw[hr]at h;simp at h
def iB{P:Program}{ro:Option Nat}{o:Oper}{a:Act}{w w':World}{v:Value}{next:Act→World→Prop}{Q:Exit→Act→World→Prop}(h:(execOp a.eval o).run P w = .ok (.value v) w')(hn:next (a.put o.dst v) w'):o.wpIn (fw ro) 0 P a w next Q:=by
 refine⟨fun _ _=>trivial,?_⟩
 show o.uponIn (fw ro) 0 P a next Q ((o.semAt ro a.eval).run P w)
 rw[xL ro h,h]
 exact hn
def l4{P:Program}{ro:Option Nat}{o:Oper}{a:Act}{w:World}{next:Act→World→Prop}{Q:Exit→Act→World→Prop}{r:Result Next}(ho:∀c,o.op ≠ .defer c)(h:(execOp a.eval o).run P w=r)(hn:o.uponIn (fw ro) 0 P a next Q r):o.wpIn (fw ro) 0 P a w next Q:=by
 refine⟨fun _ _=>trivial,?_⟩
 show o.uponIn (fw ro) 0 P a next Q ((o.semAt ro a.eval).run P w)
 rw[Oper.semAt_eq ro a.eval o ho,h]
 exact hn
def wpIn_skip{P:Program}{ro:Option Nat}{o:Oper}{a:Act}{w w':World}{next:Act→World→Prop}{Q:Exit→Act→World→Prop}(h:(execOp a.eval o).run P w = .ok .skip w')(hn:next (a.put o.dst undef) w'):o.wpIn (fw ro) 0 P a w next Q:=by
 refine l4 (fun c hc=>?_) h hn
 obtain⟨d,op,ty,pos,af,gd⟩:=o
 simp only at hc
 subst hc
 simp only[execOp,Sem.run_bind]at h
 cases hr:(resolve a.eval c ty).run P w with
 | ok d' w1=>rw[hr]at h;simp at h
 | halt x w1=>rw[hr]at h;simp at h
def uL{P:Program}{ro:Option Nat}{o:Oper}{a:Act}{w:World}{f:FuncId}{args:Array Value}{w':World}{next:Act→World→Prop}{Q:Exit→Act→World→Prop}(ho:∀c,o.op ≠ .defer c)(h:(execOp a.eval o).run P w = .ok (.enter f args) w')(hn:Calls P f args w' fun e Zb=>∃v,e = .returned v∧next (a.put o.dst v) Zb):o.wpIn (fw ro) 0 P a w next Q:=by
 refine l4 ho h ⟨fun h=>by simp[fw]at h,HX (hn.mono ?_)⟩
 rintro e Zb⟨v,rfl,h⟩
 exact h
section
variable{P:Program}{f:FuncId}{n:Nat}{R:Ending→World→Prop}{G:cI}{k:List Item}{L:fD}{H:List HP}
def ab'{c:Code}(h:∀a w,sP G n L a→Sat G w H→c.wpIn (fw G.ro) 0 P (Qk P f R G.ro k) a w):K P f n R G (.code c::k) L H:=by
 intro a w ha hw cs
 obtain⟨e,a',w',hq,adV⟩:=h a w ha hw ({ (default:Frame)with fn:=f,kind := .normal,roundOf:=G.ro }:Frame) k cs rfl trivial (QX _ _)
 cases e with
 | normal=>exact(hq cs).of_steps (StepsIn.steps adV)
 | exit id=>exact hq.elim
 | goto l=>exact hq.elim
 | ret=>exact hq.elim
 | panic c=>exact hq.elim
 | outgrown=>exact hq.elim
def qw{k':List Item}(hs:∀a cs w,step P (lone (bf G.ro f a k) cs w) = .next (lone (bf G.ro f a k') cs w))(h:K P f n R G k' L H):K P f n R G k L H :=
 fun a w ha hw cs=>(h a w ha hw cs).of_steps (.one (hs a cs w))
def JV{L':fD}(hs:∀t v,dT L' t=some v→dT L t=some v)(h:K P f n R G k L' H):K P f n R G k L H :=
 fun a w ha hw=>h a w (ha.sub hs) hw
def ai{H':List HP}(he:ao H H')(h:K P f n R G k L H'):K P f n R G k L H :=
 fun a w ha hw=>h a w ha (hw.cN he)
def rX(h:(∃w,Sat G w H)→K P f n R G k L H):K P f n R G k L H:=fun a w ha hw=>h ⟨w,hw⟩ a w ha hw
def er{α:Type}{A:HP}{B:α→List HP}{q:α→Prop}(hA:∀h,A h→∃x,q x∧Sep (B x) h)(h:∀x,q x→K P f n R G k L (B x++H)):K P f n R G k L (A::H):=by
 intro a w ha hw
 obtain⟨t,o,u,hp,Ht,h1,h2,sF,hH,hd,he⟩:=hw
 obtain⟨x,hx,hB⟩:=hA _ sF
 exact h x hx a w ha ⟨t,o,u,hp,Ht,jI ⟨h1,h2,hB,hH,hd,he⟩⟩
variable{S:World→Prop}{all:Array Oper}{rest:Pl}
def Qa{L':fD}(hs:∀t v,dT L' t=some v→dT L t=some v)(h:J P f n R G S all rest k L' H):J P f n R G S all rest k L H :=
 fun a w ha hw=>h a w (ha.sub hs) hw
def aI{H':List HP}(he:ao H H')(h:J P f n R G S all rest k L H'):J P f n R G S all rest k L H :=
 fun a w ha hw=>h a w ha (hw.cN he)
def zA(h:∀w,Sat G w H→J P f n R G S all rest k L H):J P f n R G S all rest k L H:=fun a w ha hw=>h w hw a w ha hw
def Ir{α:Type}{A:HP}{B:α→List HP}{q:α→Prop}(hA:∀h,A h→∃x,q x∧Sep (B x) h)(h:∀x,q x→J P f n R G S all rest k L (B x++H)):J P f n R G S all rest k L (A::H):=by
 intro a w ha hw
 obtain⟨t,o,u,hp,Ht,h1,h2,sF,hH,hd,he⟩:=hw
 obtain⟨x,hx,hB⟩:=hA _ sF
 exact h x hx a w ha ⟨t,o,u,hp,Ht,jI ⟨h1,h2,hB,hH,hd,he⟩⟩
def FU(h:K P f n R G k L H):J P f n R G S all .nil k L H:=fun a w ha hw _=>h a w ha hw
def qE{l r:Pl}(h1:J P f n R G S all l k L H)(h2:J P f n R G S all r k L H):J P f n R G S all (.fork l r) k L H:=fun a w ha hw hS=>⟨h1 a w ha hw (Sx.of hS),h2 a w ha hw (Sx.of hS)⟩
def jP{o:Oper}{y:Nat→Option Bool}(h:tF o.guard=true):Region.wanted o y=true:=by
 unfold tF at h
 unfold Region.wanted
 split <;> simp_all
def BE{ro:Option Nat}{Q:Exit→Act→World→Prop}(l:List Oper):∀(i:Nat) (a:Act) (w:World),(∀j,all[i+j]?=l[j]?) →
  MK P ro (fun _=>True) Q all (items l) a w→wpOpsIn (fw ro) 0 P all Q (List.range' i l.length) a w:=by
 induction l with
 | nil=>exact fun i a w _ h=>h
 | cons o l ih =>
  intro i a w hl h
  have h0:all[i]?=some o:=by simpa using hl 0
  have RC:∀j,all[i+1+j]?=l[j]? := fun j=>by have:=hl (j+1);simp at this;rw[← this];congr 1;omega
  simp only[List.length_cons,List.range'_succ,wpOpsIn,h0]
  simp only[items,MK]at h
  rcases h with⟨hg,⟨hm,_⟩|⟨_,hw⟩⟩|⟨_,hw,h⟩
  ·cases hm
  ·have Ew:Region.wanted o (yielded all a.tmps)=true:=hg.elim jP id
   simp only[Ew,if_true]
   exact Oper.wpIn_mono (fun a' w' h'=>ih (i+1) a' w' RC h'.2) hw
  ·simp only[hw,Bool.false_eq_true,if_false]
   exact⟨fun _ _=>trivial,ih (i+1) _ w RC h⟩
def P9{id:Nat}{ops:Array Oper}(h:J P f n R G (fun _=>True) ops (items ops.toList) k L H):K P f n R G (.code (.region id ops false)::k) L H :=
 ab' fun a w ha hw=>wpIn_region (by
  have:=BE (P:=P) (all:=ops) (Q:=Qk P f R G.ro k) ops.toList 0 a w (by simp) (h a w ha hw (Sx.of (S:=fun _=>True) trivial))
  rw[List.range_eq_range']
  simpa using this)
inductive Pt where
 | nil
 | st (i:Nat) (p:Pt)
 | act (i:Nat) (p:Pt)
 | fork (l r:Pt)
def eE(all:Array Oper):Pt→Pl
 | .nil => .nil
 | .st i p=>match all.toList[i]? with
  | some o => .cons true (tF o.guard) o (eE all p)
  | none=>eE all p
 | .act i p=>match all.toList[i]? with
  | some o => .cons false (tF o.guard) o (eE all p)
  | none=>eE all p
 | .fork l r => .fork (eE all l) (eE all r)
def Pt.qh:Pt→List Nat
 | .act i _=>[i]
 | .fork l r=>l.qh++r.qh
 | _=>[]
def Pt.depth:Pt→Nat
 | .nil=>0
 | .st _ p=>p.depth+1
 | .act _ p=>p.depth+1
 | .fork l r=>max l.depth r.depth
def Pt.isNil:Pt→Bool
 | .nil=>true
 | _=>false
def D2(all:Array Oper)(i:Nat):List Nat:=match all[i]? with
 | some o=>(o.after.toList.filter fun e=>Region.binds .any e).map (·.on)
 | none=>[]
def pass(all:Array Oper):Nat→List Nat→List Nat
 | 0,s=>s
 | k+1,s=>pass all k (if s.contains k then D2 all k++s else s)
def oW(all:Array Oper)(j:Nat):Bool:=(List.range all.size).all fun i=>Nat.beq i j || (pass all all.size (D2 all j)).contains i
def eC(all:Array Oper):Bool→Pt→Array Bool→Bool
 | top,.nil,listed=>top && (Region.ready .any all listed).isEmpty
 | top,.st i p,listed=>top && decide (i<all.size) && Region.free .any all listed i && (Region.ready .any all listed).contains i && eC all true p (listed.setIfInBounds i true)
 | top,.act i p,listed=>(!top || (Region.ready .any all listed).all (fun j=>Nat.beq j i)) && (Region.ready .any all listed).contains i && decide (i<all.size) && (!p.isNil || oW all i) && eC all true p (listed.setIfInBounds i true)
 | top,.fork l r,listed=>(!top || (Region.ready .any all listed).all (fun j=>(l.qh++r.qh).contains j)) && eC all false l listed && eC all false r listed
def AQ(ops:Array Oper):Bool:=ops.toList.all fun o=>match o.op with
 | .defer _=>false
 | _=>true
def Ha{ops:Array Oper}(h:AQ ops=true){j:Nat}{o:Oper}(hj:ops[j]?=some o):∀c,o.op ≠ .defer c:=by
 intro c hc
 have hm:o∈ops.toList:=by
  have:ops.toList[j]?=some o:=by simpa using hj
  exact List.mem_of_getElem? this
 have:=List.all_eq_true.1 h o hm
 rw[hc]at this
 cases this
def SC(P:Program)(ro:Option Nat)(ops:Array Oper)(Q:Exit→Act→World→Prop)(S:World→Prop):Nat→Array Bool→Act→World→Prop
 | 0,listed,a,w=>Region.ready .any ops listed=[]∧Q .normal a w
 | fuel+1,listed,a,w =>
  (Region.ready .any ops listed=[]→Q .normal a w) ∧
  ∀i∈Region.ready .any ops listed,wpOpIn (fw ro) 0 P ops Q i (fun a' w'=>(S w'∨oW ops i=true)∧SC P ro ops Q S fuel (listed.setIfInBounds i true) a' w') a w
def sY{P:Program}{ro:Option Nat}{ops:Array Oper}{Q:Exit→Act→World→Prop}{S:World→Prop}:∀(fuel:Nat) (listed:Array Bool) (a:Act) (w:World),SC P ro ops Q S fuel listed a w→wpAnyIn (fw ro) 0 P .any ops Q fuel listed a w
 | 0,_,_,_,h=>h
 | fuel+1,_,_,_,h=>⟨h.1,fun i hi=>wpOpIn_mono (fun a' w' h'=>sY fuel _ a' w' h'.2) (h.2 i hi)⟩
def vz{P:Program}{ro:Option Nat}{ops:Array Oper}{Q:Exit→Act→World→Prop}{S:World→Prop}{i:Nat}{o:Oper}{v:Value}{a:Act}(hi:ops[i]?=some o)(hy:YieldsIf P ops S o v a){K:Act→World→Prop}{w:World}(hS:S w)(h:K (a.put o.dst v) w):wpOpIn (fw ro) 0 P ops Q i K a w:=by
 unfold wpOpIn
 simp only[hi]
 rcases hy with⟨hw,hv⟩|⟨hw,rfl⟩
 ·simp only[hw,if_true];exact iB (hv w hS) h
 ·simp only[hw,Bool.false_eq_true,if_false];exact⟨fun _ _=>trivial,h⟩
def wpOp_put{P:Program}{ro:Option Nat}{ops:Array Oper}{Q:Exit→Act→World→Prop}{S:World→Prop}{j:Nat}{oi oj:Oper}{v:Value}(hj:ops[j]?=some oj)(Gn:oi.apart ops oj=true)(hsi:∀cs b,oi.op ≠ .select cs b)(hsj:∀cs b,oj.op ≠ .select cs b)(XJ:∀c,oj.op ≠ .defer c)(hQ:∀c a w,Q (.panic c) (a.put oi.dst v) w→Q (.panic c) a w){K:Act→World→Prop}{a:Act}{w:World}(hy:YieldsIf P ops S oi v a)(h:wpOpIn (fw ro) 0 P ops Q j K (a.put oi.dst v) w) :
  wpOpIn (fw ro) 0 P ops Q j (fun a' w'=>YieldsIf P ops S oi v a'∧K (a'.put oi.dst v) w') a w:=by
 obtain⟨h1,h2,h3⟩:=Oper.apart_spec Gn
 have stay:∀u,YieldsIf P ops S oi v (a.put oj.dst u):=fun u=>hy.of_same (execOp_put oi hsi a oj.dst u h3) (wanted_put oi a oj.dst u h3)
 have on:∀u w',K ((a.put oi.dst v).put oj.dst u) w'→YieldsIf P ops S oi v (a.put oj.dst u)∧K ((a.put oj.dst u).put oi.dst v) w':=fun u w' hk=>⟨stay u,by rw[← Act.put_comm a v u h2];exact hk⟩
 unfold wpOpIn at h ⊢
 rw[hj]at h ⊢
 simp only[wanted_put oj a oi.dst v h1]at h ⊢
 cases hw:Region.wanted oj (yielded ops a.tmps)with
 | false=>simp only[hw,Bool.false_eq_true,if_false]at h ⊢;exact⟨fun _ _=>trivial,on _ _ h.2⟩
 | true =>
  simp only[hw,if_true]at h ⊢
  have h:=h.2
  rw[show(fw ro).round=ro from rfl,Oper.semAt_eq ro _ oj XJ,execOp_put oj hsj a oi.dst v h1]at h
  refine l4 XJ rfl ?_
  generalize (execOp a.eval oj).run P w=r at h ⊢
  cases r with
  | ok x w' =>
   cases x <;> simp only[Oper.uponIn]at h ⊢
   case value u=>exact on _ _ h
   case skip=>exact on _ _ h
   case defer d=>exact⟨hy.of_same zr zr |>.of_same (execOp_put oi hsi _ oj.dst undef h3) (wanted_put oi _ oj.dst undef h3),by rw[← Act.put_comm _ v undef h2,← Act.put_defers];exact h⟩
   case enter f args =>
    refine⟨h.1,CallsIn.mono h.2 fun e Zb he=>?_⟩
    cases e with
    | returned u=>exact on _ _ he
    | panicked c=>exact hQ _ _ _ he
    | outgrown=>exact he
   case row row args=>exact⟨h.1,RowsIn.mono h.2 fun u Zb he=>on _ _ he⟩
   case round l f tmps assign body =>
    refine⟨h.1,RoundIn.mono h.2 fun e Zb he=>?_⟩
    cases e with
    | returned u=>exact on _ _ he
    | panicked c=>exact hQ _ _ _ he
    | outgrown=>exact he
  | halt x w' =>
   cases x <;> simp only[Oper.uponIn]at h ⊢
   case panic u=>exact hQ _ _ _ h
def Down(ops:Array Oper)(listed:Array Bool):Prop:=listed.size=ops.size∧∀i,i<ops.size→listed.getD i false=true→∀p∈D2 ops i,listed.getD p false=true
def vK{ops:Array Oper}{listed:Array Bool}{i:Nat}(h:i∈Region.ready .any ops listed):∀p∈D2 ops i,listed.getD p false=true:=by
 obtain⟨h0,o,ho,gp⟩:=mem_ready.1 h
 intro p hp
 simp only[D2,ho,List.mem_map,List.mem_filter]at hp
 obtain⟨e,⟨he,hb⟩,rfl⟩:=hp
 exact gp e (by simpa using he) hb
def Down.set{ops:Array Oper}{listed:Array Bool}{i:Nat}(hd:Down ops listed)(h:i∈Region.ready .any ops listed):Down ops (listed.setIfInBounds i true):=by
 refine⟨by simp[hd.1],fun j hj hl p hp=>?_⟩
 have qf:∀q,listed.getD q false=true→(listed.setIfInBounds i true).getD q false=true:=fun q hq=>getD_set_true hq
 by_cases A6:i=j
 ·subst A6;exact qf p (vK h p hp)
 ·rw[getD_set_ne false A6]at hl
  exact qf p (hd.2 j hj hl p hp)
def D5{ops:Array Oper}{listed:Array Bool}(hd:Down ops listed):∀(k:Nat) (s:List Nat),k≤ops.size→(∀x∈s,listed.getD x false=true)→∀x∈pass ops k s,listed.getD x false=true:=by
 intro k
 induction k with
 | zero=>intro s _ h x hx;exact h x hx
 | succ k ih =>
  intro s hk h x hx
  simp only[pass]at hx
  refine ih _ ag ?_ x hx
  intro y hy
  split at hy
  ·rename_i hc
   rcases List.mem_append.1 hy with hy|hy
   ·exact hd.2 k ag (h k (by simpa using hc)) y hy
   ·exact h y hy
  ·exact h y hy
def Ep{ops:Array Oper}{listed:Array Bool}{j:Nat}(hd:Down ops listed)(h:j∈Region.ready .any ops listed)(hl:oW ops j=true){i:Nat}(hi:i<ops.size)(bZ:j≠i):listed.getD i false=true:=by
 simp only[oW,List.all_eq_true,List.mem_range,Bool.or_eq_true]at hl
 rcases hl i hi with h1|h1
 ·exact absurd (Nat.eq_of_beq_eq_true h1).symm bZ
 ·exact D5 hd _ _ (Nat.le_refl _) (vK h) i (by simpa using h1)
def Am{P:Program}{ro:Option Nat}{ops:Array Oper}{Q:Exit→Act→World→Prop}{S:World→Prop}{i:Nat}{oi:Oper}{v:Value}(hi:ops[i]?=some oi)(aaU:∀(j:Nat) (o:Oper) cs b,ops[j]?=some o→o.op ≠ .select cs b)(adK:AQ ops=true)(hQ:∀c a w,Q (.panic c) (a.put oi.dst v) w→Q (.panic c) a w) :
  ∀(fuel:Nat) (listed:Array Bool) (a:Act) (w:World),Down ops listed →
   (∀j oj,ops[j]?=some oj→j≠i→listed.getD j true=false→(∀e∈oj.after,Region.binds .any e=true→e.on≠i)→oi.apart ops oj=true) →
   i∈Region.ready .any ops listed→YieldsIf P ops S oi v a→S w →
   SC P ro ops Q S fuel (listed.setIfInBounds i true) (a.put oi.dst v) w→SC P ro ops Q S (fuel+1) listed a w:=by
 intro fuel
 have adx:i<ops.size:=(Array.getElem?_eq_some_iff.1 hi).1
 induction fuel with
 | zero =>
  intro listed a w _ _ hr hy hS H
  refine⟨fun h=>(by rw[h]at hr;cases hr),fun j hj=>?_⟩
  by_cases Ci:j=i
  ·subst Ci;exact vz hi hy hS ⟨.inl hS,H⟩
  ·have:=ready_mono hj Ci
   rw[H.1]at this
   cases this
 | succ fuel ih =>
  intro listed a w Ti EM hr hy hS H
  refine⟨fun h=>(by rw[h]at hr;cases hr),fun j hj=>?_⟩
  by_cases Ci:j=i
  ·subst Ci;exact vz hi hy hS ⟨.inl hS,H⟩
  ·have h1:=H.2 j (ready_mono hj Ci)
   obtain⟨abi,oj,YJ,gp⟩:=mem_ready.1 hj
   have h0:=(mem_ready.1 hr).1
   have wo:∀e∈oj.after,Region.binds .any e=true→e.on≠i:=fun e he hb heq=>by
    have h1:=gp e he hb
    rw[heq]at h1
    rcases Nat.lt_or_ge i listed.size with h'|h'
    ·simp[h']at h0 h1;rw[h0]at h1;cases h1
    ·simp[Array.getElem?_eq_none h']at h1
   have EF:oW ops j≠true:=fun hl=>by
    have h1:=Ep Ti hj hl adx Ci
    rcases Nat.lt_or_ge i listed.size with h'|h'
    ·simp[h']at h0 h1;rw[h0]at h1;cases h1
    ·simp[Array.getElem?_eq_none h']at h1
   have h2:=wpOp_put YJ (EM j oj YJ Ci abi wo) (fun cs b=>aaU i oi cs b hi) (fun cs b=>aaU j oj cs b YJ) (Ha adK YJ) hQ hy h1
   have XE:∀k ok,ops[k]?=some ok→k≠i→(listed.setIfInBounds j true).getD k true=false →
     (∀e∈ok.after,Region.binds .any e=true→e.on≠i)→oi.apart ops ok=true:=fun k ok hk hki hun jN=>by
    refine EM k ok hk hki ?_ jN
    by_cases A5:j=k
    ·subst A5;exact abi
    ·rw[getD_set_ne true A5]at hun;exact hun
   refine wpOpIn_mono (fun a' w' h3=>?_) h2
   have Ph:S w':=h3.2.1.resolve_right EF
   refine⟨.inl Ph,ih (listed.setIfInBounds j true) a' w' (Ti.set hj) XE (ready_mono hr (Ne.symm Ci)) h3.1 Ph ?_⟩
   rw[Array.setIfInBounds_comm _ _ Ci]
   exact h3.2.2
def Gt{ro:Option Nat}{Q:Exit→Act→World→Prop}(hQ:∀c a w,¬Q (.panic c) a w)(MO:Region.noSelect all=true)(kf:AQ all=true)(p:Pt) :
  ∀(fuel:Nat) (listed:Array Bool) (a:Act) (w:World),Down all listed→p.depth≤fuel→(p.depth≠0→S w)→MK P ro S Q all (eE all p) a w →
  (eC all true p listed=true→SC P ro all Q S fuel listed a w) ∧
  (eC all false p listed=true→∀i∈p.qh,∃g,fuel=g+1∧wpOpIn (fw ro) 0 P all Q i (fun a' w'=>(S w'∨oW all i=true)∧SC P ro all Q S g (listed.setIfInBounds i true) a' w') a w):=by
 induction p with
 | nil =>
  intro fuel listed a w hd hf hS h
  refine⟨fun hp=>?_,fun hp=>by simp[eC]at hp⟩
  simp only[eC,Bool.true_and,List.isEmpty_iff]at hp
  cases fuel with
  | zero=>exact⟨hp,h⟩
  | succ g=>exact⟨fun _=>h,by rw[hp];simp⟩
 | st i p ih =>
  intro fuel listed a w hd hf hS h
  refine⟨fun hp=>?_,fun hp=>by simp[eC]at hp⟩
  obtain⟨fuel,rfl⟩:∃g,fuel=g+1:=⟨fuel-1,by simp[Pt.depth]at hf;omega⟩
  have MS:p.depth≤fuel:=by simp[Pt.depth]at hf;omega
  have XW:=hS (by simp[Pt.depth])
  simp only[eC,Bool.true_and,Bool.and_eq_true,decide_eq_true_eq]at hp
  obtain⟨⟨⟨hi,EM⟩,yu⟩,sU⟩:=hp
  have ho:all[i]?=some all[i]:=by simp[hi]
  have ho':all.toList[i]?=some all[i]:=by simp[hi]
  have vW:i∈Region.ready .any all listed:=by simpa using yu
  simp only[eE,ho',MK]at h
  have hq:∀(v:Value),∀c (a:Act) w,Q (.panic c) (a.put all[i].dst v) w→Q (.panic c) a w:=fun v c a w hq=>(hQ c _ w hq).elim
  rcases h with⟨hg,⟨_,v,hv,h⟩|⟨hm,_⟩⟩|⟨_,hw,h⟩
  ·have Ew:Region.wanted all[i] (yielded all a.tmps)=true:=hg.elim jP id
   exact Am ho (Region.noSelect_spec MO) kf (hq v) fuel listed a w hd (Region.free_spec ho EM) vW (.inl ⟨Ew,hv⟩) XW ((ih fuel _ _ w (hd.set vW) MS (fun _=>XW) h).1 sU)
  ·cases hm
  ·exact Am ho (Region.noSelect_spec MO) kf (hq undef) fuel listed a w hd (Region.free_spec ho EM) vW (.inr ⟨hw,rfl⟩) XW ((ih fuel _ _ w (hd.set vW) MS (fun _=>XW) h).1 sU)
 | act i p ih =>
  intro fuel listed a w hd hf hS h
  obtain⟨fuel,rfl⟩:∃g,fuel=g+1:=⟨fuel-1,by simp[Pt.depth]at hf;omega⟩
  have MS:p.depth≤fuel:=by simp[Pt.depth]at hf;omega
  have XW:=hS (by simp[Pt.depth])
  have key:i∈Region.ready .any all listed→i<all.size→((!p.isNil || oW all i)=true)→eC all true p (listed.setIfInBounds i true)=true →
    wpOpIn (fw ro) 0 P all Q i (fun a' w'=>(S w'∨oW all i=true)∧SC P ro all Q S fuel (listed.setIfInBounds i true) a' w') a w:=by
   intro vW hi lf sU
   have ho:all[i]?=some all[i]:=by simp[hi]
   have ho':all.toList[i]?=some all[i]:=by simp[hi]
   simp only[eE,ho',MK]at h
   unfold wpOpIn
   simp only[ho]
   rcases h with⟨hg,⟨hm,_⟩|⟨_,hw⟩⟩|⟨_,hw,h⟩
   ·cases hm
   ·have Ew:Region.wanted all[i] (yielded all a.tmps)=true:=hg.elim jP id
    simp only[Ew,if_true]
    refine Oper.wpIn_mono (fun a' w' h'=>?_) hw
    cases p with
    | nil=>exact⟨.inr (by simpa[Pt.isNil]using lf),(ih fuel _ a' w' (hd.set vW) MS (fun h=>absurd rfl h) h'.2).1 sU⟩
    | st j q =>
     have Ph:S w':=by
      have:=h'.1
      simp only[eE]at this
      have hj:j<all.size:=by simp only[eC,Bool.true_and,Bool.and_eq_true,decide_eq_true_eq]at sU;exact sU.1.1.1
      have nF:all.toList[j]?=some all[j]:=by simp[hj]
      simp only[nF]at this
      exact this
     exact⟨.inl Ph,(ih fuel _ a' w' (hd.set vW) MS (fun _=>Ph) h'.2).1 sU⟩
    | act j q =>
     have Ph:S w':=by
      have:=h'.1
      simp only[eE]at this
      have hj:j<all.size:=by simp only[eC,Bool.and_eq_true,decide_eq_true_eq]at sU;exact sU.1.1.2
      have nF:all.toList[j]?=some all[j]:=by simp[hj]
      simp only[nF]at this
      exact this
     exact⟨.inl Ph,(ih fuel _ a' w' (hd.set vW) MS (fun _=>Ph) h'.2).1 sU⟩
    | fork l r =>
     have Ph:S w':=h'.1
     exact⟨.inl Ph,(ih fuel _ a' w' (hd.set vW) MS (fun _=>Ph) h'.2).1 sU⟩
   ·simp only[hw,Bool.false_eq_true,if_false]
    exact⟨fun _ _=>trivial,.inl XW,(ih fuel _ _ w (hd.set vW) MS (fun _=>XW) h).1 sU⟩
  constructor
  ·intro hp
   simp only[eC,Bool.and_eq_true,decide_eq_true_eq,Bool.not_true,Bool.false_or]at hp
   obtain⟨⟨⟨⟨gp,yu⟩,hi⟩,lf⟩,sU⟩:=hp
   have vW:i∈Region.ready .any all listed:=by simpa using yu
   refine⟨fun h0=>(by rw[h0]at vW;cases vW),fun j hj=>?_⟩
   have:j=i:=Nat.eq_of_beq_eq_true (List.all_eq_true.1 gp j hj)
   subst this
   exact key vW hi lf sU
  ·intro hp j hj
   simp only[eC,Bool.and_eq_true,decide_eq_true_eq]at hp
   obtain⟨⟨⟨⟨_,yu⟩,hi⟩,lf⟩,sU⟩:=hp
   simp only[Pt.qh,List.mem_singleton]at hj
   subst hj
   exact⟨fuel,rfl,key (by simpa using yu) hi lf sU⟩
 | fork l r ihl ihr =>
  intro fuel listed a w hd hf hS h
  simp only[Pt.depth]at hf hS
  simp only[eE,MK]at h
  have h1:=ihl fuel listed a w hd ag (fun h0=>hS ag) h.1
  have h2:=ihr fuel listed a w hd ag (fun h0=>hS ag) h.2
  have key:eC all false l listed=true→eC all false r listed=true→∀i∈l.qh++r.qh,∃g,fuel=g+1∧wpOpIn (fw ro) 0 P all Q i (fun a' w'=>(S w'∨oW all i=true)∧SC P ro all Q S g (listed.setIfInBounds i true) a' w') a w:=by
   intro hl hr i hi
   rcases List.mem_append.1 hi with hi|hi
   ·exact h1.2 hl i hi
   ·exact h2.2 hr i hi
  constructor
  ·intro hp
   simp only[eC,Bool.and_eq_true,Bool.not_true,Bool.false_or]at hp
   obtain⟨⟨gp,hl⟩,hr⟩:=hp
   have bZ:∀ {q:Pt},eC all false q listed=true→∃i∈q.qh,i∈Region.ready .any all listed:=by
    intro q hq
    induction q with
    | nil=>simp[eC]at hq
    | st=>simp[eC]at hq
    | act i p=>simp only[eC,Bool.and_eq_true]at hq;exact⟨i,by simp[Pt.qh],by simpa using hq.1.1.1.2⟩
    | fork a b iha ihb =>
     simp only[eC,Bool.and_eq_true]at hq
     obtain⟨i,h1,h2⟩:=iha (by exact hq.1.2) 
     exact⟨i,by simp[Pt.qh,h1],h2⟩
   obtain⟨i0,MR,hr0⟩:=bZ hl
   obtain⟨g,rfl,_⟩:=key hl hr i0 (List.mem_append_left _ MR)
   refine⟨fun h0=>(by rw[h0]at hr0;cases hr0),fun j hj=>?_⟩
   obtain⟨g',hg,hw⟩:=key hl hr j (by simpa using List.all_eq_true.1 gp j hj)
   cases hg
   exact hw
  ·intro hp
   simp only[eC,Bool.and_eq_true]at hp
   exact fun i hi=>key hp.1.2 hp.2 i hi
def Down.start(ops:Array Oper):Down ops (Array.replicate ops.size false):=by
 refine⟨by simp,fun i hi h=>?_⟩
 simp[hi]at h
def Yp{id:Nat}{ops:Array Oper}(S:World→Prop)(dS:Pt)(hm:P.follows .mixedOrders=true)(MO:Region.noSelect ops=true)(hp:(AQ ops && (Nat.ble dS.depth ops.size && eC ops true dS (Array.replicate ops.size false)))=true)(hS:∀w,Sat G w H→S w)(h:J P f n R G S ops (eE ops dS) k L H):K P f n R G (.code (.region id ops true)::k) L H :=
 ab' fun a w ha hw=>by
  simp only[Bool.and_eq_true]at hp
  have mR:Sat G { w with drawn:=w.drawn+1 } H:=hw.draw _
  exact wpIn_region_any hm (sY _ _ _ _ ((Gt (fun _ _ _ h=>h) MO hp.1 dS ops.size _ a _ (Down.start ops) (Nat.le_of_ble_eq_true hp.2.1) (fun _=>hS _ mR) (h a _ ha mR (Sx.of (hS _ mR)))).1 hp.2.2))
inductive ad7 where
 | mk (k:List Item)
def ir:Nat→List Item→ad7
 | 0,k => .mk k
 | i+1,k=>match k with
  | .code .skip::k'=>ir i k'
  | .code (.label _)::k'=>ir i k'
  | .inBlock _::k'=>ir i k'
  | .code (.seq a b)::k'=>ir i (.code a :: .code b::k')
  | .code (.block id b)::k'=>ir i (.code b :: .inBlock id::k')
  | .code (.exit id)::k'=>match exitTo id k' with
   | some k''=>ir i k''
   | none => .mk k
  | _ => .mk k
def gL(i:Nat):∀ {k k':List Item},ir i k = .mk k'→K P f n R G k' L H→K P f n R G k L H:=by
 induction i with
 | zero=>intro k k' h hk;simp only[ir]at h;cases h;exact hk
 | succ i ih =>
  intro k k' h hk
  simp only[ir]at h
  split at h
  ·exact qw (fun a cs w=>stepR_skip) (ih h hk)
  ·exact qw (fun a cs w=>stepR_label) (ih h hk)
  ·exact qw (fun a cs w=>stepR_inBlock) (ih h hk)
  ·exact qw (fun a cs w=>stepR_seq) (ih h hk)
  ·exact qw (fun a cs w=>stepR_block) (ih h hk)
  ·split at h
   ·rename_i hx;exact qw (fun a cs w=>stepR_exit hx) (ih h hk)
   ·cases h;exact hk
  ·cases h;exact hk
def CW{c:Operand}{t e:Code}{b:Bool}(hc:ev L c=some (.bool b))(ht:b=true→K P f n R G (.code t::k) L H)(he:b=false→K P f n R G (.code e::k) L H) :
  K P f n R G (.code (.cond c t e)::k) L H:=by
 intro a w ha hw cs
 have hs:=stepR_cond (P:=P) (b:=({ (default:Frame)with fn:=f,kind := .normal,roundOf:=G.ro }:Frame)) (k:=k) (cs:=cs) (w:=w) (x:=t) (y:=e) (ha.ev hc)
 cases b with
 | true=>exact(ht rfl a w ha hw cs).of_steps (.one hs)
 | false=>exact(he rfl a w ha hw cs).of_steps (.one hs)
def aG{k0:List Item}{id:Nat}{ops:Array Oper}(hk:ir 1000 k0 = .mk (.code (.region id ops false)::k))(h:J P f n R G (fun _=>True) ops (items ops.toList) k L H):K P f n R G k0 L H :=
 gL 1000 hk (P9 h)
def aH{k0:List Item}{id:Nat}{ops:Array Oper}(S:World→Prop)(dS:Pt)(hk:ir 1000 k0 = .mk (.code (.region id ops true)::k))(hm:P.follows .mixedOrders=true)(MO:Region.noSelect ops=true)(hp:(AQ ops && (Nat.ble dS.depth ops.size && eC ops true dS (Array.replicate ops.size false)))=true)(hS:∀w,Sat G w H→S w)(h:J P f n R G S ops (eE ops dS) k L H):K P f n R G k0 L H:=gL 1000 hk (Yp S dS hm MO hp hS h)
def fQ{k0:List Item}{c:Operand}{t e:Code}{b:Bool}(hk:ir 1000 k0 = .mk (.code (.cond c t e)::k))(hc:ev L c=some (.bool b))(ht:b=true→K P f n R G (.code t::k) L H)(he:b=false→K P f n R G (.code e::k) L H):K P f n R G k0 L H:=gL 1000 hk (CW hc ht he)
def CV{k0:List Item}{c:Operand}{t e:Code}(hk:ir 1000 k0 = .mk (.code (.cond c t e)::k))(hc:ev L c=some (.bool true))(h:K P f n R G (.code t::k) L H):K P f n R G k0 L H:=gL 1000 hk (CW hc (fun _=>h) (fun h=>by cases h))
def wY{k0:List Item}{c:Operand}{t e:Code}(hk:ir 1000 k0 = .mk (.code (.cond c t e)::k))(hc:ev L c=some (.bool false))(h:K P f n R G (.code e::k) L H):K P f n R G k0 L H:=gL 1000 hk (CW hc (fun h=>by cases h) (fun _=>h))
def aq{k0:List Item}{c:Operand}{t e:Code}{p:Prop}[Decidable p](hk:ir 1000 k0 = .mk (.code (.cond c t e)::k))(hc:ev L c=some (.bool (decide p)))(ht:p→K P f n R G (.code t::k) L H)(he:¬p→K P f n R G (.code e::k) L H):K P f n R G k0 L H :=
 gL 1000 hk (CW hc (fun h=>ht (of_decide_eq_true h)) (fun h=>he (of_decide_eq_false h)))
def bz{α:Type}{k0:List Item}{c:Code}(I:α→Prop)(μ:α→Nat)(Lf:α→fD)(Hf:α→List HP)(x0:α)(h0:I x0)(hk:ir 1000 k0 = .mk (.code (.loop c)::k))(hL:∀t v,dT (Lf x0) t=some v→dT L t=some v)(hH:ao H (Hf x0))(round:∀x,I x→(∀y,I y→μ y < μ x→K P f n R G (.inLoop c::k) (Lf y) (Hf y))→K P f n R G (.code c :: .inLoop c::k) (Lf x) (Hf x)):K P f n R G k0 L H:=by
 have key:∀m x,I x→μ x=m→K P f n R G (.code c :: .inLoop c::k) (Lf x) (Hf x):=by
  intro m
  induction m using Nat.strongRecOn with
  | _ m ih =>
   intro x hI hx
   refine round x hI fun y hy cW=>qw (fun a cs w=>stepR_inLoop) (ih (μ y) (hx ▸ cW) y hy rfl)
 exact gL 1000 hk (qw (fun a cs w=>stepR_loop) (JV hL (ai hH (key _ x0 h0 rfl))))
def aM{α:Type}{I:α→Prop}{c:Code}{k0:List Item}{Lf:α→fD}{Hf:α→List HP}{q:α→Prop}(ih:∀y,I y→q y→K P f n R G (.inLoop c::k) (Lf y) (Hf y))(y:α)(hk:ir 1000 k0 = .mk (.inLoop c::k))(hI:I y)(hq:q y)(hL:∀t v,dT (Lf y) t=some v→dT L t=some v)(hH:ao H (Hf y)):K P f n R G k0 L H :=
 gL 1000 hk (JV hL (ai hH (ih y hI hq)))
def xT(L:fD):List ResultVar→List Value→Mh
 | [],acc=>Cr acc []
 | .tmp t::xs,acc=>match dT L t with
  | some v=>xT L xs (v::acc)
  | none => .no
 | .cell _ _::_,_ => .no
def eG:List Value→Value
 | [v]=>v
 | vs => .tuple vs.toArray
def BV(tmps:Array Value):ResultVar→Sem Value
 | .tmp t=>pure (tmps.getD t undef)
 | .cell a t=>do loadVar t (← asAddr (tmps.getD a undef))
def oN(fn:Func)(tmps:Array Value):results fn tmps=(fn.results.mapM (BV tmps) >>= fun vs=>pure (if h:vs.size=1 then vs[0]else .tuple vs)):=by
 unfold results
 congr 1
def NF{a:Act}(ha:Has n L a)(xs:List ResultVar)(acc vs:List Value)(h:xT L xs acc = .mk vs)(w:World) :
  ∃us,vs=acc.reverse++us∧(xs.mapM (m:=Sem) (BV a.tmps)).run P w = .ok us w:=by
 induction xs generalizing acc with
 | nil=>have:=rf _ _ _ h;exact⟨[],by simpa using this,rfl⟩
 | cons x xs ih =>
  cases x with
  | cell p t=>cases h
  | tmp t =>
   simp only[xT]at h
   split at h
   ·rename_i v hv
    obtain⟨us,zU,iR⟩:=ih _ h
    refine⟨v::us,by rw[zU];simp,?_⟩
    have hg:a.tmps.getD t undef=v:=by simp[Array.getD_eq_getD_getElem?,ha.2.2 t v hv]
    simp only[List.mapM_cons,BV,Sem.run_bind,Sem.run_pure,hg,Result.andThen_ok,iR]
   ·cases h
def vI{a:Act}{fn:Func}(ha:Has n L a)(vs:List Value)(h:xT L fn.results.toList [] = .mk vs)(w:World):(results fn a.tmps).run P w = .ok (eG vs) w:=by
 obtain⟨us,zU,iR⟩:=NF (P:=P) ha fn.results.toList [] vs h w
 simp only[List.reverse_nil,List.nil_append]at zU
 subst zU
 rw[oN,Array.mapM_eq_mapM_toList]
 simp only[Sem.run_bind,Sem.run_map,iR,Result.andThen_ok,Sem.run_pure]
 congr 1
 match vs with
 | []=>rfl
 | [v]=>rfl
 | v::u::vs=>simp[eG]
def qb(ds:List Nat):∀(fr:Frame) (cs:List Frame) (w:World),fr.mode = .returning→fr.defers=ds.map mark→(∃F,Sat G w (ds.map (fun r=>ae r (.deferred (some [])))++F)∧F=H) →
  ∃w',Sat G w' H∧Steps P (lone fr cs w) (lone { fr with defers:=[] } cs w'):=by
 induction ds with
 | nil =>
  rintro fr cs w hm hd⟨F,hw,rfl⟩
  refine⟨w,hw,?_⟩
  have:({ fr with defers:=[] }:Frame)=fr:=by simp only[List.map_nil]at hd;rw[← hd]
  rw[this];exact .refl P _
 | cons r ds ih =>
  rintro fr cs w hm hd⟨F,hw,rfl⟩
  have hg:w.heap[r]?=some (.deferred (some [])):=hw.get (i:=0) rfl
  have hk:(Instr.takeDeferred r).run P w = .ok [] { w with heap:=w.heap.setIfInBounds r (.deferred none) }:=by
   have h1:(getObj r).run P w = .ok (.deferred (some [])) w:=by simp[getObj,Sem.run,hg]
   have h2:(setObj r (.deferred none)).run P w = .ok () { w with heap:=w.heap.setIfInBounds r (.deferred none) }:=by simp[setObj,Sem.run,hg]
   simp[Instr.takeDeferred,Sem.run_bind,h1,h2,Result.andThen]
  have hs:=step_collected (P:=P) (cs:=cs) (fr:=fr) (by rw[hm];simp) hd rfl hk
  have mR:Sat G { w with heap:=w.heap.setIfInBounds r (.deferred none) } (ds.map (fun r=>ae r (.deferred (some [])))++F):=hw.BQ.cN (ao.drop _ _)
  obtain⟨w',h1,h2⟩:=ih { fr with defers:=[]++ds.map mark } cs _ hm rfl ⟨F,mR,rfl⟩
  exact⟨w',h1,(Steps.trans (.one hs) h2)⟩
def TA{fn:Func}(OM:G.ro=none)(hf:P.funcs[f]?=some fn)(vs:List Value)(hr:xT L fn.results.toList [] = .mk vs){H':List HP}(he:ao H (G.ds.map (fun r=>ae r (.deferred (some [])))++H'))(h:∀w,Sat G w H'→R (.returned (eG vs)) w):K P f n R G (.code .ret::k) L H:=by
 intro a w ha hw cs
 rw[OM]
 obtain⟨w',mR,hs⟩:=qb (P:=P) G.ds { bf none f a (.code .ret::k)with mode := .returning } cs w rfl ha.2 ⟨H',hw.cN he,rfl⟩
 exact⟨_,w',_,h w' mR,Steps.trans (.one (stepR_ret rfl)) hs,rfl,rfl,rfl,rfl,fn,hf,vI ha.1 vs hr w'⟩
def P'{fn:Func}(OM:G.ro=none)(hf:P.funcs[f]?=some fn)(vs:List Value)(hr:xT L fn.results.toList [] = .mk vs){H':List HP}(he:ao H (G.ds.map (fun r=>ae r (.deferred (some [])))++H'))(h:∀w,Sat G w H'→R (.returned (eG vs)) w):K P f n R G [] L H:=by
 intro a w ha hw cs
 rw[OM]
 obtain⟨w',mR,hs⟩:=qb (P:=P) G.ds { bf none f a []with mode := .returning } cs w rfl ha.2 ⟨H',hw.cN he,rfl⟩
 exact⟨_,w',_,h w' mR,Steps.trans (.one (stepR_end rfl)) hs,rfl,rfl,rfl,rfl,fn,hf,vI ha.1 vs hr w'⟩
end
def mB(fn:Func):Bool:=fn.body.isSome && !(fn.name == "runtime.NumGoroutine")
def aE(P:Program)(f:FuncId)(args:List Value)(Pre:List HP)(Post:Value→List HP→Prop):Prop :=
 (P.funcs[f]?.map mB=some true) ∧
 ∀G w F,Sat G w (Pre++F)→Calls P f args.toArray w fun e w'=>∃v H,e = .returned v∧Post v H∧Sat G w' (H++F)
def Ends(R:Ending→World→Prop)(G:cI)(F:List HP)(Post:Value→List HP→Prop):Prop :=
 (G.ro=none∧G.ds=[])∧∀v H w,Post v H→Sat G w (H++F)→R (.returned v) w
inductive ad6 where
 | mk (L:fD)
def N1:Nat→List Value→fD→ad6
 | _,[],L => .mk L
 | i,v::vs,L=>N1 (i+1) vs ((i,v)::L)
def LD(vs:List Value):∀(i:Nat) (L0 L:fD),N1 i vs L0 = .mk L→∀t v,dT L t=some v→(i≤t∧vs[t-i]?=some v)∨dT L0 t=some v:=by
 induction vs with
 | nil=>intro i L0 L h t v hv;simp only[N1]at h;cases h;exact .inr hv
 | cons u vs ih =>
  intro i L0 L h t v hv
  rcases ih (i+1) _ L h t v hv with⟨h1,h2⟩|h2
  ·left
   refine⟨ag,?_⟩
   rw[show t-i=(t-(i+1))+1 by omega]
   simpa using h2
  ·simp only[dT]at h2
   cases hb:Nat.beq i t with
   | true =>
    have:=Nat.eq_of_beq_eq_true hb
    subst this
    simp only[hb,cond_true]at h2
    cases h2
    exact .inl ⟨Nat.le_refl _,by simp⟩
   | false =>
    simp only[hb,cond_false]at h2
    exact .inr h2
def aE.enter{P:Program}{f:FuncId}{fn:Func}{c:Code}{n:Nat}{args:List Value}{L:fD}{Pre:List HP}{Post:Value→List HP→Prop}(hf:P.funcs[f]?=some fn)(hc:mB fn=true)(hb:fn.body=some c)(hn:fn.ntmps=n)(hp:N1 0 args [] = .mk L)(hlen:Nat.ble args.length n=true)(h:∀G F R,Ends R G F Post→K P f n R G [.code c] L (Pre++F)):aE P f args Pre Post:=by
 refine⟨by rw[hf];simp[hc],fun G w F hw cs=>?_⟩
 have ad9:=Nat.le_of_ble_eq_true hlen
 have hk:=h { G with ro:=none,ds:=[] } F (fun e w'=>∃v H,e = .returned v∧Post v H∧Sat G w' (H++F)) ⟨⟨rfl,rfl⟩,fun v H w' hp hs=>⟨v,H,rfl,hp,hs⟩⟩
 have ha:Has n L { tmps:=args.toArray++Array.replicate (n-args.toArray.size) undef,defers:=[] }:=by
  refine⟨by simp;omega,trivial,fun t v hv=>?_⟩
  rcases LD args 0 [] L hp t v hv with⟨_,h2⟩|h2
  ·simp only[Nat.sub_zero]at h2
   have cW:t<args.length:=by
    rcases Nat.lt_or_ge t args.length with h|h
    ·exact h
    ·rw[List.getElem?_eq_none h]at h2;cases h2
   rw[Array.getElem?_append_left (by simpa using cW)]
   simpa using h2
  ·cases h2
 have HB:Frame.enter P f args.toArray .normal=bf none f { tmps:=args.toArray++Array.replicate (n-args.toArray.size) undef,defers:=[] } [.code c]:=by
  simp[Frame.enter,Frame.atR,bf,hf,hb,hn]
 rw[HB]
 exact hk _ w ⟨ha,rfl⟩ hw cs
def aL{P:Program}{f:FuncId}{n:Nat}{R:Ending→World→Prop}{G:cI}{k k0:List Item}{L:fD}{H:List HP}{fn:Func}{F:List HP}{Post:Value→List HP→Prop}(hR:Ends R G F Post)(hf:P.funcs[f]?=some fn)(hk:ir 1000 k0 = .mk (.code .ret::k))(vs:List Value)(hr:xT L fn.results.toList [] = .mk vs){Hq:List HP}(hp:Post (eG vs) Hq)(he:ao H (Hq++F)):K P f n R G k0 L H :=
 gL 1000 hk (TA hR.1.1 hf vs hr (by rw[hR.1.2];exact he) fun w hw=>hR.2 _ _ w hp hw)
def bU{P:Program}{f:FuncId}{n:Nat}{R:Ending→World→Prop}{G:cI}{k0:List Item}{L:fD}{H:List HP}{fn:Func}{F:List HP}{Post:Value→List HP→Prop}(hR:Ends R G F Post)(hf:P.funcs[f]?=some fn)(hk:ir 1000 k0 = .mk [])(vs:List Value)(hr:xT L fn.results.toList [] = .mk vs){Hq:List HP}(hp:Post (eG vs) Hq)(he:ao H (Hq++F)):K P f n R G k0 L H :=
 gL 1000 hk (P' hR.1.1 hf vs hr (by rw[hR.1.2];exact he) fun w hw=>hR.2 _ _ w hp hw)
def rk{P:Program}{f:FuncId}{n:Nat}{R:Ending→World→Prop}{G:cI}{ds:List Nat}{k k0:List Item}{L:fD}{H:List HP}{fn:Func}{F:List HP}{Post:Value→List HP→Prop}(hR:Ends R G F Post)(hf:P.funcs[f]?=some fn)(hk:ir 1000 k0 = .mk (.code .ret::k))(vs:List Value)(hr:xT L fn.results.toList [] = .mk vs){Hq:List HP}(hp:Post (eG vs) Hq)(he:ao H (ds.map (fun r=>ae r (.deferred (some [])))++(Hq++F))):K P f n R { G with ds:=ds } k0 L H :=
 gL 1000 hk (TA hR.1.1 hf vs hr he fun w hw=>hR.2 _ _ w hp hw)
def Im{P:Program}{f:FuncId}{n:Nat}{R:Ending→World→Prop}{G:cI}{ds:List Nat}{k0:List Item}{L:fD}{H:List HP}{fn:Func}{F:List HP}{Post:Value→List HP→Prop}(hR:Ends R G F Post)(hf:P.funcs[f]?=some fn)(hk:ir 1000 k0 = .mk [])(vs:List Value)(hr:xT L fn.results.toList [] = .mk vs){Hq:List HP}(hp:Post (eG vs) Hq)(he:ao H (ds.map (fun r=>ae r (.deferred (some [])))++(Hq++F))):K P f n R { G with ds:=ds } k0 L H :=
 gL 1000 hk (P' hR.1.1 hf vs hr he fun w hw=>hR.2 _ _ w hp hw)
def ao.fin{H pre rest F:List HP}(is:List Nat)(m:Nat)(h:tA is [] H [] = .mk pre rest)(hd:rest.drop m=F):ao H (pre++F):=by
 refine(ao.pick is h).trans ?_
 have mo:∀(m:Nat) (l:List HP),ao l (l.drop m):=by
  intro m
  induction m with
  | zero=>exact fun l=>ao.refl _
  | succ m ih =>
   intro l
   cases l with
   | nil=>exact ao.refl _
   | cons A l=>exact(ao.drop A l).trans (ih l)
 subst hd
 intro h hs
 have:=mG hs
 obtain⟨h',s,OL⟩:=pO (mo m rest) this
 exact⟨h',s,jI OL⟩
def df:Nat→Nat→Pt→Pt
 | _,0,p=>p
 | a,n+1,p => .st a (df (a+1) n p)
end Go.SL
namespace Go.SL
structure Ty where
 gy:TypeDesc
 info:TypeInfo
inductive Tr where
 | leaf
 | node (k:Nat) (v:Ty) (l r:Tr)
def Tr.get:Tr→Nat→Option Ty
 | .leaf,_=>none
 | .node k v l r,t=>bif Nat.beq t k then some v else bif Nat.blt t k then l.get t else r.get t
def Tr.Good(P:Program):Tr→Prop
 | .leaf=>True
 | .node k v l r=>(P.underlying k=some v.gy∧P.info? k=some v.info)∧l.Good P∧r.Good P
class fV (P:Program) (U:outParam Tr):Prop where
 u9:U.Good P
def Tr.E6{P:Program}{U:Tr}(h:U.Good P)(t:Nat)(ty:Ty)(hg:U.get t=some ty):P.underlying t=some ty.gy∧P.info? t=some ty.info:=by
 induction U with
 | leaf=>simp[Tr.get]at hg
 | node k v l r ihl ihr =>
  simp only[Tr.get]at hg
  cases hb:Nat.beq t k with
  | true =>
   have:=Nat.eq_of_beq_eq_true hb
   subst this
   simp only[hb,cond_true]at hg
   cases hg
   exact h.1
  | false =>
   simp only[hb,cond_false]at hg
   cases hl:Nat.blt t k with
   | true=>simp only[hl,cond_true]at hg;exact ihl h.2.1 hg
   | false=>simp only[hl,cond_false]at hg;exact ihr h.2.2 hg
section
variable{P:Program}{U:Tr}[hU:fV P U]
def fF{t:Nat}{ty:Ty}(h:U.get t=some ty):P.underlying t=some ty.gy:=(Tr.E6 hU.u9 t ty h).1
def Rk{t:Nat}{ty:Ty}(h:U.get t=some ty):P.info? t=some ty.info:=(Tr.E6 hU.u9 t ty h).2
def run_underlying{t:Nat}{ty:Ty}(h:U.get t=some ty)(w:World):(underlying t).run P w = .ok ty.gy w:=by
 simp[underlying,fF (P:=P) h]
def run_typeInfo{t:Nat}{ty:Ty}(h:U.get t=some ty)(w:World):(typeInfo t).run P w = .ok ty.info w:=by
 simp[typeInfo,Rk (P:=P) h]
def run_sizeOf{t:Nat}{ty:Ty}(h:U.get t=some ty)(w:World):(sizeOf t).run P w = .ok ty.info.size w:=by
 simp[sizeOf,run_typeInfo h]
def Ty.isAgg(ty:Ty):Bool:=match ty.gy with
 | .struct _=>true
 | .array _ _=>true
 | _=>false
def qL{t:Nat}{ty:Ty}(h:U.get t=some ty)(w:World):(isAgg t).run P w = .ok ty.isAgg w:=by
 simp only[isAgg,Sem.run_bind,run_underlying h,Result.andThen_ok,Ty.isAgg]
 cases ty.gy <;> rfl
def dX{t:Nat}{ty:Ty}{z:Value}(h:U.get t=some ty)(hz:ty.info.zero=some z)(w:World):(zeroValue t).run P w = .ok z w:=by
 simp[zeroValue,run_typeInfo h,hz]
end
def cE{α:Type}:List α→Nat→Option α
 | [],_=>none
 | x::_,0=>some x
 | _::l,i+1=>cE l i
def dI{α:Type}(l:List α)(i:Nat):cE l i=l[i]? := by
 induction l generalizing i with
 | nil=>simp[cE]
 | cons x l ih=>cases i <;> simp[cE,ih]
def SF:IntKind→Nat
 | .i8=>0 | .i16=>1 | .i32=>2 | .i64=>3 | .u8=>4 | .u16=>5 | .u32=>6 | .u64=>7
def Ri{j k:IntKind}(h:Nat.beq (SF j) (SF k)=true):j=k:=by
 cases j <;> cases k <;> first|rfl|(revert h;decide)
def Tu(a b:ByteArray):Bool:=a.data.toList == b.data.toList
def ltS(a b:ByteArray):Bool:=Op.bytesLess a.data.toList b.data.toList
def abZ:BinOp→Int→Int→Option Bool
 | .eql,a,b=>some (decide (a=b))
 | .neq,a,b=>some (decide (a≠b))
 | .lss,a,b=>some (decide (a<b))
 | .leq,a,b=>some (decide (a≤b))
 | .gtr,a,b=>some (decide (b<a))
 | .geq,a,b=>some (decide (b≤a))
 | _,_,_=>none
def abY:BinOp→ByteArray→ByteArray→Option Bool
 | .eql,a,b=>some (Tu a b)
 | .neq,a,b=>some (!(Tu a b))
 | .lss,a,b=>some (ltS a b)
 | .leq,a,b=>some (ltS a b || Tu a b)
 | .gtr,a,b=>some (!(ltS a b || Tu a b))
 | .geq,a,b=>some (!(ltS a b))
 | _,_,_=>none
def PC:BinOp→IntKind→Int→Int→Option Int
 | .and,k,a,b=>some (k.wrap ((BitVec.ofInt k.bits a &&& BitVec.ofInt k.bits b).toNat:Int))
 | .or,k,a,b=>some (k.wrap ((BitVec.ofInt k.bits a ||| BitVec.ofInt k.bits b).toNat:Int))
 | .xor,k,a,b=>some (k.wrap ((BitVec.ofInt k.bits a ^^^ BitVec.ofInt k.bits b).toNat:Int))
 | .andNot,k,a,b=>some (k.wrap ((BitVec.ofInt k.bits a &&& ~~~ BitVec.ofInt k.bits b).toNat:Int))
 | _,_,_,_=>none
def Tz(op:BinOp)(k:IntKind)(a b:Int):Option Int:=bif Nat.beq (SF k) 6 then none else PC op k a b
def Bg:TypeDesc→Value→Value→Option Bool
 | .pointer _,.pointer none,.pointer none=>some true
 | .pointer _,.pointer none,.pointer (some _)=>some false
 | .pointer _,.pointer (some _),.pointer none=>some false
 | .slice _,.slice none _ _,.slice none _ _=>some true
 | .slice _,.slice (some _) _ _,.slice none _ _=>some false
 | .slice _,.slice none _ _,.slice (some _) _ _=>some false
 | .map _ _,.map none,.map none=>some true
 | .map _ _,.map (some _),.map none=>some false
 | .map _ _,.map none,.map (some _)=>some false
 | .func _ _ _,.nilFunc,.nilFunc=>some true
 | .func _ _ _,.func _ _ _,.nilFunc=>some false
 | .func _ _ _,.nilFunc,.func _ _ _=>some false
 | .bool,.bool a,.bool b=>some (a == b)
 | _,_,_=>none
def eqV(U:Tr)(op:BinOp)(t:TypeId)(x y:Value):Option Bool :=
 match op with
 | .eql=>match U.get t with
  | some ty=>Bg ty.gy x y
  | none=>none
 | .neq=>match U.get t with
  | some ty=>match Bg ty.gy x y with
   | some b=>some (!b)
   | none=>none
  | none=>none
 | _=>none
def bo:Value→List Value
 | .agg cs=>cs.toList
 | v=>[v]
def dP(v:Value):v.cells=(bo v).toArray:=by cases v <;> simp[Value.cells,bo]
def nr:List Value→Nat→List Value→List Value→Mh
 | acc,_,z,[]=>Cr acc z
 | acc,0,_::z,v::vs=>nr (v::acc) 0 z vs
 | acc,i+1,x::z,v::vs=>nr (x::acc) i z (v::vs)
 | _,_,[],_::_ => .no
def IS(vs:List Value):∀(acc:List Value) (i:Nat) (z r:List Value),nr acc i z vs = .mk r→i+vs.length≤z.length+(if vs=[]then i else 0)∧(vs≠[]→r=acc.reverse++(z.take i++vs++z.drop (i+vs.length)))∧(vs=[]→r=acc.reverse++z):=by
 have gen:∀(z vs acc:List Value) (i:Nat) (r:List Value),nr acc i z vs = .mk r→i+vs.length≤z.length+(if vs=[]then i else 0)∧(vs≠[]→r=acc.reverse++(z.take i++vs++z.drop (i+vs.length)))∧(vs=[]→r=acc.reverse++z):=by
  intro z
  induction z with
  | nil =>
   intro vs acc i r h
   cases vs with
   | nil=>cases i <;> (simp only[nr]at h;have:=rf _ _ _ h;simp[this])
   | cons v vs=>cases i <;> simp[nr]at h
  | cons x z ih =>
   intro vs acc i r h
   cases vs with
   | nil=>cases i <;> (simp only[nr]at h;have:=rf _ _ _ h;simp[this])
   | cons v vs =>
    cases i with
    | zero =>
     simp only[nr]at h
     obtain⟨h1,h2,h3⟩:=ih vs (v::acc) 0 r h
     by_cases hv:vs=[]
     ·subst hv;have:=h3 rfl;simp[this]
     ·have:=h2 hv;simp[hv]at h1;simp[this];omega
    | succ i =>
     simp only[nr]at h
     obtain⟨h1,h2,h3⟩:=ih (v::vs) (x::acc) i r h
     have:=h2 (by simp)
     simp at h1
     refine⟨by simp;omega,fun _=>?_,fun h=>by cases h⟩
     rw[this];simp[show i+1+(vs.length+1)=(i+(vs.length+1))+1 by omega]
 exact fun acc i z r h=>gen z vs acc i r h
def zd(U:Tr)(L:fD)(fs:List Field):List Value→List (Nat × Operand)→Option Value
 | z,[]=>some (.agg z.toArray)
 | z,(i,x)::ps=>match cE fs i,ev L x with
  | some fd,some v=>match U.get fd.type with
   | some ft=>bif Nat.beq (bo v).length 0 then none else bif Nat.beq (bo v).length ft.info.size then
     (match nr [] fd.offset z (bo v)with
     | .mk z'=>zd U L fs z' ps
     | .no=>none)else none
   | none=>none
  | _,_=>none
def Fv(U:Tr):List Field→Bool
 | []=>true
 | f::fs=>match U.get f.type with
  | some _=>Fv U fs
  | none=>false
def jv(U:Tr)(op:Op)(L:fD):Option Value :=
 match op with
 | .move x=>ev L x
 | .assign x=>ev L x
 | .nilCheck x=>match ev L x with
  | some (.pointer (some a))=>some (.pointer (some a))
  | some (.func (.func f) fi cap)=>some (.func (.func f) fi cap)
  | _=>none
 | .fieldAddr s x f=>match U.get s,ev L x with
  | some ty,some (.pointer (some ⟨b,o,none⟩))=>match ty.gy with
   | .struct fs=>match cE fs.toList f with
    | some fd=>match U.get fd.type with
     | some ft=>bif Nat.beq ft.info.size 0 then none else some (.pointer (some ⟨b,o+fd.offset,none⟩))
     | none=>none
    | none=>none
   | _=>none
  | _,_=>none
 | .field s x f=>match U.get s,ev L x with
  | some ty,some (.agg cs)=>match ty.gy with
   | .struct fs=>match cE fs.toList f with
    | some fd=>match U.get fd.type with
     | some ft=>bif ft.isAgg then some (.agg (cs.extract fd.offset (fd.offset+ft.info.size)))else cE cs.toList fd.offset
     | none=>none
    | none=>none
   | _=>none
  | _,_=>none
 | .extract x i=>match ev L x with
  | some (.tuple vs)=>cE vs.toList i
  | _=>none
 | .binOp op t x y _=>match ev L x,ev L y with
  | some (.int j a),some (.int k b)=>bif Nat.beq (SF j) (SF k)then
    (match abZ op a b with
    | some c=>some (.bool c)
    | none=>match Tz op j a b with
     | some c=>some (.int j c)
     | none=>none)else none
  | some (.string a),some (.string b)=>match abY op a b with
   | some c=>some (.bool c)
   | none=>none
  | some u,some v=>match eqV U op t u v with
   | some c=>some (.bool c)
   | none=>none
  | _,_=>none
 | .unOp op _ x=>match op,ev L x with
  | .not,some (.bool b)=>some (.bool (!b))
  | _,_=>none
 | .makeFunc fn first captured=>match Gq L first.toList [],Gq L captured.toList []with
  | .mk fs,.mk cs=>some (.func fn fs.toArray cs.toArray)
  | _,_=>none
 | .build t parts=>match U.get t with
  | some ty=>match ty.gy,ty.info.zero with
   | .struct fs,some (.agg z)=>bif Fv U fs.toList then zd U L fs.toList z.toList parts.toList else none
   | _,_=>none
  | none=>none
 | .convert src dst x=>match U.get src,U.get dst,ev L x with
  | some s,some d,some (.string v)=>match s.gy,d.gy with
   | .string,.string=>some (.string v)
   | _,_=>none
  | _,_,_=>none
 | .call c=>match c.callee with
  | .builtin .len=>match c.argTypes.toList,c.args.toList with
   | [t],[x]=>match U.get t,ev L x with
    | some ty,some (.slice _ n _)=>match ty.gy with
     | .slice _=>some (.int .i64 n)
     | _=>none
    | some ty,some (.string s)=>match ty.gy with
     | .string=>some (.int .i64 s.size)
     | _=>none
    | _,_=>none
   | _,_=>none
  | .builtin .max=>match c.args.toList with
   | [x,y]=>match ev L x,ev L y with
    | some (.int k a),some (.int _ b)=>some (.int k (max a b))
    | _,_=>none
   | _=>none
  | .builtin .min=>match c.args.toList with
   | [x,y]=>match ev L x,ev L y with
    | some (.int k a),some (.int _ b)=>some (.int k (min a b))
    | _,_=>none
   | _=>none
  | _=>none
 | _=>none
section
variable{P:Program}{U:Tr}[hU:fV P U]{n:Nat}{L:fD}{a:Act}
def tr{d:Nat}{t:TypeId}{ty:Ty}{x y:Value}{b:Bool}(h:U.get t=some ty)(he:Bg ty.gy x y=some b)(w:World) :
  (Op.equalIn (d+1) t x y).run P w = .ok b w:=by
 unfold Op.equalIn
 simp only[Sem.run_bind,run_underlying h,Result.andThen_ok]
 unfold Bg at he
 split at he <;> first|(cases he;done)|skip
 all_goals(cases he;rename_i hu _ _;first|rw[hu]|skip)
 all_goals simp_all
def R7{a b:ByteArray}:Tu a b=true↔a=b:=by
 unfold Tu
 constructor
 ·intro h
  have h1:a.data.toList=b.data.toList:=by simpa using h
  cases a;cases b;simp at h1;rw[h1]
 ·rintro rfl;simp
def ab4(p q:Int):(p == q)=decide (p=q):=by rw[Bool.eq_iff_iff];simp
def B5{op:BinOp}{t yt:TypeId}{x y:Operand}{v:Value}{d:Option Tmp}{ty:TypeId}{pos:String}{af:Array Edge}{gd:Option (Nat × Bool)}(h:jv U (.binOp op t x y yt) L=some v)(ha:Has n L a)(w:World):(execOp a.eval ⟨d,.binOp op t x y yt,ty,pos,af,gd⟩).run P w = .ok (.value v) w:=by
 simp only[jv]at h
 split at h
 ·rename_i j p k q hx hy
  have ex:=ha.ev hx
  have ey:=ha.ev hy
  have hg:(eqGuard op t x y (.int j p) (.int k q)).run P w = .ok () w:=by
   unfold eqGuard;split <;> simp
  cases hk:Nat.beq (SF j) (SF k)with
  | false=>simp[hk]at h
  | true =>
   have:=Ri hk
   subst this
   simp only[hk,cond_true]at h
   simp only[execOp,Sem.run_bind,ex,ey,hg,Result.andThen_ok]
   cases h6:Nat.beq (SF j) 6 <;> cases op <;> simp only[abZ,Tz,PC,h6,cond_true,cond_false]at h <;> cases h <;>
    simp[binOp,Op.intCmp,Op.intBits,bne,ab4]
 ·rename_i s1 s2 hx hy
  have ex:=ha.ev hx
  have ey:=ha.ev hy
  have hg:(eqGuard op t x y (.string s1) (.string s2)).run P w = .ok () w:=by
   unfold eqGuard;split <;> simp
  simp only[execOp,Sem.run_bind,ex,ey,hg,Result.andThen_ok]
  cases op <;> simp only[abY]at h <;> cases h <;>
   simp[binOp,Op.stringOp,Tu,ltS,ByteArray.toList_eq]
 ·rename_i u v' hni MO hx hy
  have ex:=ha.ev hx
  have ey:=ha.ev hy
  split at h
  ·rename_i c hc
   cases h
   simp only[execOp,Sem.run_bind,ex,ey]
   unfold eqV at hc
   split at hc
   ·split at hc
    ·rename_i bQ ht
     have hr:=tr (P:=P) (d:=9999) ht hc w
     unfold Bg at hc
     split at hc <;> first|(cases hc;done)|(simp[eqGuard,binOp,Op.equal,Op.maxDepth,hr];done)
    ·cases hc
   ·split at hc
    ·rename_i bQ ht
     split at hc
     ·rename_i b hb
      have hr:=tr (P:=P) (d:=9999) ht hb w
      cases hc
      unfold Bg at hb
      split at hb <;> first|(cases hb;done)|(simp[eqGuard,binOp,Op.equal,Op.maxDepth,hr];done)
     ·cases hc
    ·cases hc
   ·cases hc
  ·cases h
 ·cases h
def Bc(vc:List Value):∀(i off:Nat) (cs:Array Value),off+i+vc.length≤cs.size →
  ((vc.toArray.zipIdx i).foldl (fun cs (x:Value × Nat)=>cs.setIfInBounds (off+x.2) x.1) cs).toList=cs.toList.take (off+i)++vc++cs.toList.drop (off+i+vc.length):=by
 induction vc with
 | nil =>
  intro i off cs _
  have:(([]:List Value).toArray.zipIdx i) = #[]:=by apply Array.ext';simp
  rw[this];simp
 | cons v vc ih =>
  intro i off cs h
  have h1:((v::vc).toArray.zipIdx i) = #[(v,i)]++vc.toArray.zipIdx (i+1):=by
   apply Array.ext';simp
  simp only[List.length_cons]at h
  rw[h1,Array.foldl_append]
  simp only[List.foldl_toArray,List.foldl_cons,List.foldl_nil]
  rw[ih (i+1) off _ (by simp;omega)]
  have h2:(cs.setIfInBounds (off+i) v).toList=cs.toList.set (off+i) v:=by simp
  rw[h2]
  have cW:off+i<cs.toList.length:=by simp;omega
  rw[List.set_eq_take_append_cons_drop,if_pos cW]
  rw[show off+(i+1)=off+i+1 by omega]
  have e1:(List.take (off+i) cs.toList++v::List.drop (off+i+1) cs.toList).take (off+i+1)=List.take (off+i) cs.toList++[v]:=by
   rw[List.take_append]
   simp only[List.length_take]
   rw[show min (off+i) cs.toList.length=off+i by omega]
   simp[List.take_take,show off+i+1-(off+i)=1 by omega]
  have e2:(List.take (off+i) cs.toList++v::List.drop (off+i+1) cs.toList).drop (off+i+1+vc.length)=List.drop (off+i+(v::vc).length) cs.toList:=by
   rw[List.drop_append]
   simp only[List.length_take,List.length_cons]
   rw[show min (off+i) cs.toList.length=off+i by omega]
   rw[List.drop_of_length_le (by simp;omega)]
   rw[show off+i+1+vc.length-(off+i)=vc.length+1 by omega]
   simp[show off+i+1+vc.length=off+i+(vc.length+1) by omega]
  rw[e1,e2]
  simp
def uS(U:Tr)(t:TypeId):Nat:=match U.get t with
 | some ft=>ft.info.size
 | none=>0
def run_places(fs:List Field)(h:Fv U fs=true)(w:World) :
  (fs.mapM (m:=Sem) fun f=>do pure (f.offset,← sizeOf f.type)).run P w = .ok (fs.map fun f=>(f.offset,uS U f.type)) w:=by
 induction fs with
 | nil=>rfl
 | cons f fs ih =>
  simp only[Fv]at h
  split at h
  ·rename_i ft Hz
   simp only[List.mapM_cons,Sem.run_bind,run_sizeOf Hz,Result.andThen_ok,Sem.run_pure,ih h,List.map_cons,uS,Hz]
  ·cases h
def Fm(ha:Has n L a)(fs:List Field)(ps:List (Nat × Operand)):∀(z:List Value) (v:Value),zd U L fs z ps=some v →
  ∃r,v = .agg r∧Instr.fill (fun i=>((fs.map fun f=>(f.offset,uS U f.type)).toArray)[i]?) z.toArray (ps.map fun x=>(x.1,a.eval x.2))=some r:=by
 induction ps with
 | nil=>intro z v h;simp only[zd]at h;cases h;exact⟨_,rfl,rfl⟩
 | cons p ps ih =>
  obtain⟨i,x⟩:=p
  intro z v h
  simp only[zd]at h
  split at h
  ·rename_i fd u qg hu
   split at h
   ·rename_i ft Hz
    cases rP:Nat.beq (bo u).length 0 with
    | true=>simp[rP]at h
    | false =>
    simp only[rP,cond_false]at h
    cases hb:Nat.beq (bo u).length ft.info.size with
    | false=>simp[hb]at h
    | true =>
     simp only[hb,cond_true]at h
     split at h
     ·rename_i z' hz'
      obtain⟨r,hv,hr⟩:=ih z' v h
      refine⟨r,hv,?_⟩
      rw[dI]at qg
      simp only[List.map_cons,Instr.fill,ha.ev hu]
      have Xg:((fs.map fun f=>(f.offset,uS U f.type)).toArray)[i]?=some (fd.offset,ft.info.size):=by
       simp[qg,uS,Hz]
      simp only[Xg]
      have hlen:(bo u).length=ft.info.size:=Nat.eq_of_beq_eq_true hb
      obtain⟨h1,h2,_⟩:=IS _ _ _ _ _ hz'
      have iY:u.cells.size=ft.info.size:=by rw[dP];simpa using hlen
      by_cases he:bo u=[]
      ·rw[he]at rP;cases rP
      ·have h4:=h2 he
       simp only[he,if_false,Nat.add_zero]at h1
       rw[if_neg (by simp[iY];rw[← hlen];exact h1)]
       have:=Bc (bo u) 0 fd.offset z.toArray (by simpa using h1)
       simp only[Nat.add_zero]at this
       have e:((bo u).toArray.zipIdx.foldl (fun cs (x:Value × Nat)=>cs.setIfInBounds (fd.offset+x.2) x.1) z.toArray)=z'.toArray:=by
        apply Array.ext'
        rw[this,h4];simp
       rw[dP]
       rw[show((bo u).toArray.zipIdx.foldl (fun cs (x:Value × Nat)=>match x with|(c,j)=>cs.setIfInBounds (fd.offset+j) c) z.toArray)=z'.toArray from e]
       exact hr
     ·cases h
   ·cases h
  ·cases h
def B4{op:Op}{v:Value}{d:Option Tmp}{ty:TypeId}{pos:String}{af:Array Edge}{gd:Option (Nat × Bool)}(h:jv U op L=some v)(ha:Has n L a)(w:World):(execOp a.eval ⟨d,op,ty,pos,af,gd⟩).run P w = .ok (.value v) w:=by
 cases op with
 | binOp op t x y yt=>exact B5 h ha w
 | move x=>simp only[jv]at h;simp[execOp,ha.ev h]
 | assign x=>simp only[jv]at h;simp[execOp,ha.ev h]
 | nilCheck x =>
  simp only[jv]at h
  split at h
  ·rename_i hx;cases h;simp[execOp,ha.ev hx]
  ·rename_i hx;cases h;simp[execOp,ha.ev hx]
  ·cases h
 | fieldAddr s x f =>
  simp only[jv]at h
  split at h
  ·rename_i bQ b o hs hx
   split at h
   ·rename_i fs mS
    split at h
    ·rename_i fd qg
     split at h
     ·rename_i ft Hz
      cases hz:Nat.beq ft.info.size 0 with
      | true=>simp[hz]at h
      | false =>
       simp only[hz,cond_false]at h
       cases h
       rw[dI]at qg
       have MS:fs[f]?=some fd:=by simpa using qg
       have bZ:ft.info.size≠0:=Nat.ne_of_beq_eq_false hz
       simp only[execOp,ha.ev hx,Instr.fieldAt,Sem.run_bind,run_underlying hs,Result.andThen_ok,mS,MS,Instr.sureAddr,Sem.run_pure,fieldPlace,run_sizeOf Hz]
       rw[if_neg bZ]
       simp only[Sem.run_pure,Result.andThen_ok,Addr.add]
       by_cases h0:fd.offset=0
       ·simp[h0]
       ·simp[h0]
     ·cases h
    ·cases h
   ·cases h
  ·cases h
 | field s x f =>
  simp only[jv]at h
  split at h
  ·rename_i bQ cs hs hx
   split at h
   ·rename_i fs mS
    split at h
    ·rename_i fd qg
     split at h
     ·rename_i ft Hz
      rw[dI]at qg
      have MS:fs[f]?=some fd:=by simpa using qg
      simp only[execOp,ha.ev hx,Instr.field,Sem.run_bind,run_underlying hs,Result.andThen_ok,mS,MS,asAgg,Sem.run_pure,part,qL Hz]
      cases hg:ft.isAgg with
      | true =>
       simp only[hg,cond_true]at h
       cases h
       simp[run_sizeOf Hz]
      | false =>
       simp only[hg,cond_false,dI]at h
       have h':cs[fd.offset]?=some v:=by simpa using h
       simp[h']
     ·cases h
    ·cases h
   ·cases h
  ·cases h
 | extract x i =>
  simp only[jv]at h
  split at h
  ·rename_i vs hx
   rw[dI]at h
   have h':vs[i]?=some v:=by simpa using h
   simp[execOp,ha.ev hx,Instr.extract,h']
  ·cases h
 | unOp op t x =>
  simp only[jv]at h
  split at h
  ·rename_i b hx;cases h;simp[execOp,ha.ev hx,Op.unary]
  ·cases h
 | makeFunc fn first captured =>
  simp only[jv]at h
  split at h
  ·rename_i fs cs h1 h2
   cases h
   simp only[execOp,nh ha _ _ h1,nh ha _ _ h2,Instr.makeFunc,Sem.run_bind,Sem.run_pure,Result.andThen_ok]
  ·cases h
 | build t parts =>
  simp only[jv]at h
  split at h
  ·rename_i bQ ht
   split at h
   ·rename_i fs z mS hz
    cases qY:Fv U fs.toList with
    | false=>simp[qY]at h
    | true =>
     simp only[qY,cond_true]at h
     obtain⟨r,rfl,hr⟩:=Fm ha _ _ _ _ h
     have hp:(fs.mapM (m:=Sem) fun f=>do pure (f.offset,← sizeOf f.type)).run P w = .ok (fs.toList.map fun f=>(f.offset,uS U f.type)).toArray w:=by
      rw[Array.mapM_eq_mapM_toList]
      simp only[Sem.run_map,run_places _ qY,Result.andThen_ok]
     simp only[execOp,Instr.build,Sem.run_bind,dX ht hz,run_underlying ht,Result.andThen_ok,mS]
     rw[hp]
     simp only[Result.andThen_ok,Value.cells,Array.toList_map]
     simp only[Array.toArray_toList]at hr
     rw[show(List.map (fun x:Nat × Operand=>match x with|(i,x)=>(i,a.eval x)) parts.toList)=parts.toList.map (fun x=>(x.1,a.eval x.2))from rfl]
     rw[hr]
     simp
   ·cases h
  ·cases h
 | convert src dst x =>
  simp only[jv]at h
  split at h
  ·rename_i s dd sv hs hd hx
   split at h
   ·rename_i h1 h2
    cases h
    simp[execOp,ha.ev hx,convert,run_underlying hs,run_underlying hd,h1,h2]
   ·cases h
  ·cases h
 | call c =>
  obtain⟨callee,args,argTypes⟩:=c
  simp only[jv]at h
  split at h
  ·split at h
   ·rename_i t x ht hx
    have gS:args = #[x]:=by apply Array.ext';simpa using hx
    have acQ:argTypes = #[t]:=by apply Array.ext';simpa using ht
    subst gS;subst acQ
    split at h
    ·rename_i bQ a1 m1 c1 h1 h2
     split at h
     ·rename_i hu
      cases h
      simp[execOp,resolve,invoke,builtin,Builtin.len_,ha.ev h2,run_underlying h1,hu,goInt]
     ·cases h
    ·rename_i bQ s1 h1 h2
     split at h
     ·rename_i hu
      cases h
      simp[execOp,resolve,invoke,builtin,Builtin.len_,ha.ev h2,run_underlying h1,hu,goInt]
     ·cases h
    ·cases h
   ·cases h
  ·split at h
   ·rename_i x y hx
    have gS:args = #[x,y]:=by apply Array.ext';simpa using hx
    subst gS
    split at h
    ·rename_i k p k' q h1 h2
     cases h
     simp only[execOp,resolve,invoke,builtin,Builtin.max_,Sem.run_bind,Sem.run_pure,Result.andThen_ok,List.map_toArray,List.map_cons,List.map_nil,ha.ev h1,ha.ev h2,List.foldlM_cons,List.foldlM_nil,Builtin.max2]
     congr 3
     rw[Int.max_def];by_cases ED:p≤q
     ·by_cases h3:q=p
      ·subst h3;simp
      ·rw[if_pos ag,if_pos ED]
     ·rw[if_neg ag,if_neg ED]
    ·cases h
   ·cases h
  ·split at h
   ·rename_i x y hx
    have gS:args = #[x,y]:=by apply Array.ext';simpa using hx
    subst gS
    split at h
    ·rename_i k p k' q h1 h2
     cases h
     simp only[execOp,resolve,invoke,builtin,Builtin.min_,Sem.run_bind,Sem.run_pure,Result.andThen_ok,List.map_toArray,List.map_cons,List.map_nil,ha.ev h1,ha.ev h2,List.foldlM_cons,List.foldlM_nil,Builtin.min2]
     congr 3
     rw[Int.min_def];by_cases ED:p≤q
     ·by_cases h3:q=p
      ·subst h3;simp
      ·rw[if_neg ag,if_pos ED]
     ·rw[if_pos ag,if_neg ED]
    ·cases h
   ·cases h
  ·cases h
 | _=>cases h
inductive ad8 where
 | mk (aef:Bool) (rest:Pl) (L:fD)
def PL(U:Tr)(n:Nat):Nat→Bool→Pl→fD→ad8
 | 0,b,rest,L => .mk b rest L
 | i+1,b,rest,L=>match rest with
  | .cons _ true ⟨some d,op,_,_,_,_⟩ rs=>bif Nat.blt d n then
    (match jv U op L with
    | some v=>PL U n i true rs ((d,v)::L)
    | none => .mk b rest L)else .mk b rest L
  | _ => .mk b rest L
end
section
variable{P:Program}{U:Tr}[hU:fV P U]{f:FuncId}{n:Nat}{R:Ending→World→Prop}{G:cI}{k:List Item}{L:fD}{H:List HP}{S:World→Prop}{all:Array Oper}{rest:Pl}
def du{m:Bool}{d:Tmp}{op:Op}{ty:TypeId}{pos:String}{af:Array Edge}{gd:Option (Nat × Bool)}{v:Value}(hd:Nat.blt d n=true)(hv:∀a,Has n L a→∀w,(execOp a.eval ⟨some d,op,ty,pos,af,gd⟩).run P w = .ok (.value v) w)(h:J P f n R G S all rest k ((d,v)::L) H):J P f n R G S all (.cons m true ⟨some d,op,ty,pos,af,gd⟩ rest) k L H:=by
 intro a w ha hw hS
 have h1:=h _ w (ha.put hd v) hw (Sx.of hS)
 refine .inl ⟨.inl rfl,?_⟩
 cases m with
 | true=>exact .inl ⟨rfl,v,fun w _=>hv a ha.1 w,h1⟩
 | false =>
  refine .inr ⟨rfl,?_⟩
  exact iB (hv a ha.1 w) ⟨Sx.of hS,h1⟩
def Yw(i:Nat):∀ {b b':Bool} {rest xS:Pl} {L L':fD},PL U n i b rest L = .mk b' xS L'→J P f n R G S all xS k L' H→J P f n R G S all rest k L H:=by
 induction i with
 | zero=>intro b b' rest xS L L' h hj;simp only[PL]at h;cases h;exact hj
 | succ i ih =>
  intro b b' rest xS L L' h hj
  simp only[PL]at h
  split at h
  ·rename_i m d op ty pos af gd rs
   cases hd:Nat.blt d n with
   | false=>simp only[hd,cond_false]at h;cases h;exact hj
   | true =>
    simp only[hd,cond_true]at h
    split at h
    ·rename_i v hv
     exact du hd (fun a ha w=>B4 hv ha w) (ih h hj)
    ·cases h;exact hj
  ·cases h;exact hj
def FV{xS:Pl}{L':fD}(h:PL U n 1000 false rest L = .mk true xS L')(hj:J P f n R G S all xS k L' H):J P f n R G S all rest k L H :=
 Yw 1000 h hj
end
end Go.SL
