import Derived.OrdersHeld
import Derived.KernelRfl
import Derived.Laws.Cells
import Derived.Laws.CopyRow
import Derived.Laws.AppendOwn
import Derived.Laws.CopyOwn
import Derived.OrdersIn
import Derived.RangeFuncLeaves
import Derived.Laws.Strings
set_option linter.defProp false
namespace Go.SL
def zr.{u} {α:Sort u} {a:α}:a=a:=Eq.refl a
def ag{p:Prop}(h:p:=by omega):p:=h
def ak{p:Prop}(h:p:=by kernel_rfl):p:=h
def mM{p:Prop}(h:p:=by(intro _ _ _ _ _;exact trivial)):p:=h
def bD{p:Prop}(h:p:=by(intro _ _ _;exact trivial)):p:=h
def gB{p:Prop}(h:p:=by(intro _ _;exact trivial)):p:=h
abbrev Hp:=Nat→Option Obj
abbrev HP:=Hp→Prop
def emp:HP:=fun h=>∀c,h c=none
def ae(b:Nat)(o:Obj):HP:=fun h=>∀c,h c=if c=b then some o else none
def star(A B:HP):HP:=fun h=>∃h1 h2:Hp,A h1∧B h2∧(∀b,h1 b=none∨h2 b=none)∧∀b,h b=(h1 b).or (h2 b)
def Sep:List HP→HP
 | []=>emp
 | A::l=>star A (Sep l)
def ex{α:Type}(A:α→HP):HP:=fun h=>∃x,A x h
def sub(h' h:Hp):Prop:=∀b o,h' b=some o→h b=some o
def cl(l:List Value)(e:TypeId):Obj := .cells l.toArray e (0,0)
def sub.refl(h:Hp):sub h h:=fun _ _ e=>e
def sub.trans{a b c:Hp}(h1:sub a b)(h2:sub b c):sub a c:=fun x o e=>h2 x o (h1 x o e)
def ef{A B:HP}{h:Hp}(hs:star A B h):star B A h:=by
 obtain⟨h1,h2,ha,hb,hd,he⟩:=hs
 refine⟨h2,h1,hb,ha,fun b=>(hd b).symm,fun b=>?_⟩
 rw[he b]
 rcases hd b with e|e <;> rw[e] <;> simp
def kq{A B C:HP}{h:Hp}(hs:star A (star B C) h):star (star A B) C h:=by
 obtain⟨h1,h2,ha,⟨h3,h4,hb,hc,hd',MI⟩,hd,he⟩:=hs
 refine⟨fun b=>(h1 b).or (h3 b),h4,⟨h1,h3,ha,hb,fun b=>?_,fun b=>rfl⟩,hc,fun b=>?_,fun b=>?_⟩
 ·rcases hd b with e|e
  ·exact .inl e
  ·rw[MI b]at e;simp at e;exact .inr e.1
 ·rcases hd b with e|e
  ·rcases hd' b with e'|e'
   ·left;simp[e,e']
   ·exact .inr e'
  ·rw[MI b]at e;simp at e;exact .inr e.2
 ·rw[he b,MI b];simp[Option.or_assoc]
def fu{A A' B B':HP}{h:Hp}(ha:∀h,A h→A' h)(hb:∀h,B h→B' h)(hs:star A B h):star A' B' h:=by
 obtain⟨h1,h2,h3,h4,hd,he⟩:=hs
 exact⟨h1,h2,ha _ h3,hb _ h4,hd,he⟩
def kU{A B C:HP}{h:Hp}(hs:star (star A B) C h):star A (star B C) h:=by
 have h1:=ef hs
 have h2:star C (star B A) h:=fu (fun _ h=>h) (fun _ h=>ef h) h1
 have h3:=kq h2
 have h4:=ef h3
 exact fu (fun _ h=>h) (fun _ h=>ef h) h4
def AK{A B C:HP}{h:Hp}(hs:star A (star B C) h):star B (star A C) h:=by
 have h1:=kq hs
 exact kU (fu (fun _ h=>ef h) (fun _ h=>h) h1)
def uo{H H':List HP}(hp:H.Perm H'):∀h,Sep H h→Sep H' h:=by
 induction hp with
 | nil=>exact fun _ h=>h
 | cons A _ ih=>exact fun h hs=>fu (fun _ h=>h) ih hs
 | swap A B l=>exact fun h hs=>AK hs
 | trans _ _ ih1 Hh=>exact fun h hs=>Hh h (ih1 h hs)
def tt{A:HP}{h:Hp}(ha:A h):star A emp h :=
 ⟨h,fun _=>none,ha,fun _=>rfl,fun _ => .inr rfl,fun b=>by simp⟩
def AL{A:HP}{h:Hp}(hs:star A emp h):A h:=by
 obtain⟨h1,h2,ha,hb,hd,he⟩:=hs
 have:h=h1:=by funext b;rw[he b,hb b];simp
 rw[this];exact ha
def ze{B:HP}{h:Hp}(hs:star emp B h):B h:=AL (ef hs)
def mE{H1 H2:List HP}{h:Hp}(hs:Sep (H1++H2) h):star (Sep H1) (Sep H2) h:=by
 induction H1 generalizing h with
 | nil=>exact ef (tt hs)
 | cons A l ih=>exact kq (fu (fun _ h=>h) (fun _ h=>ih h) hs)
def jK{H1 H2:List HP}{h:Hp}(hs:star (Sep H1) (Sep H2) h):Sep (H1++H2) h:=by
 induction H1 generalizing h with
 | nil=>exact ze hs
 | cons A l ih=>exact fu (fun _ h=>h) (fun _ h=>ih h) (kU hs)
def eU{A:HP}{h:Hp}(hs:Sep [A] h):A h:=AL hs
def gm{A:HP}{h:Hp}(ha:A h):Sep [A] h:=tt ha
def al(H H':List HP):Prop:=∀h,Sep H h→∃h':Hp,sub h' h∧Sep H' h'
def al.refl(H:List HP):al H H:=fun h hs=>⟨h,sub.refl h,hs⟩
def al.trans{H1 H2 H3:List HP}(a:al H1 H2)(b:al H2 H3):al H1 H3:=fun h hs=>by
 obtain⟨h',s1,h1⟩:=a h hs
 obtain⟨h'',s2,h2⟩:=b h' h1
 exact⟨h'',s2.trans s1,h2⟩
def al.perm{H H':List HP}(hp:H.Perm H'):al H H':=fun h hs=>⟨h,sub.refl h,uo hp h hs⟩
def kp{A B:HP}{h:Hp}(hs:star A B h):∃h',sub h' h∧A h':=by
 obtain⟨h1,h2,ha,_,_,he⟩:=hs
 exact⟨h1,fun b o e=>by rw[he b,e];rfl,ha⟩
def xU{A B:HP}{h:Hp}(hs:star A B h):∃h',sub h' h∧B h':=kp (ef hs)
def al.drop(A:HP)(H:List HP):al (A::H) H:=fun _ hs=>xU hs
def pW{A B B':HP}{h:Hp}(hb:∀h,B h→∃h',sub h' h∧B' h')(hs:star A B h):∃h',sub h' h∧star A B' h':=by
 obtain⟨h1,h2,ha,rh,hd,he⟩:=hs
 obtain⟨h3,s3,ML⟩:=hb _ rh
 refine⟨fun b=>(h1 b).or (h3 b),fun b o e=>?_,h1,h3,ha,ML,fun b=>?_,fun b=>rfl⟩
 ·rw[he b]
  rcases hd b with e1|e1
  ·simp only[e1,Option.none_or]at e ⊢;exact s3 b o e
  ·have:h3 b=none:=by
    cases Bk:h3 b with
    | none=>rfl
    | some x=>have:=s3 b x Bk;rw[e1]at this;cases this
   simp only[this,e1,Option.or_none]at e ⊢;exact e
 ·rcases hd b with e1|e1
  ·exact .inl e1
  ·right
   cases Bk:h3 b with
   | none=>rfl
   | some x=>have:=s3 b x Bk;rw[e1]at this;cases this
def al.cons{H H':List HP}(A:HP)(a:al H H'):al (A::H) (A::H'):=fun _ hs=>pW a hs
def al.head{A:HP}{H B:List HP}(hA:∀h,A h→∃h',sub h' h∧Sep B h'):al (A::H) (B++H):=fun h hs=>by
 obtain⟨h',s,Rz⟩:=pW hA (ef hs)
 exact⟨h',s,jK (ef Rz)⟩
def al.fold{A:HP}{H B:List HP}(hA:∀h,Sep B h→∃h',sub h' h∧A h'):al (B++H) (A::H):=fun h hs=>by
 obtain⟨h',s,Rz⟩:=pW hA (ef (mE hs))
 exact⟨h',s,ef Rz⟩
def al.append{H1 H2:List HP}(F:List HP)(a:al H1 H2):al (H1++F) (H2++F):=fun h hs=>by
 obtain⟨h',s,Rz⟩:=pW a (ef (mE hs))
 exact⟨h',s,jK (ef Rz)⟩
structure cJ where
 tape:Nat→Question→Nat
 os:Os
 output:Array (Nat × ByteArray)
 ro:Option Nat:=none
 lo:Nat:=0
 ds:List Nat:=[]
def Sat(G:cJ)(w:World)(H:List HP):Prop :=
 (w.tape=G.tape∧G.lo≤w.drawn)∧w.os=G.os∧w.output=G.output∧∃h:Hp,(∀b o,h b=some o→w.heap[b]?=some o)∧Sep H h
def Sat.cV{G:cJ}{w:World}{H H':List HP}(hs:Sat G w H)(he:al H H'):Sat G w H':=by
 obtain⟨a,b,c,h,hw,hh⟩:=hs
 obtain⟨h',s,hh'⟩:=he h hh
 exact⟨a,b,c,h',fun x o e=>hw x o (s x o e),hh'⟩
def Sat.head{G:cJ}{w:World}{A:HP}{H:List HP}(hs:Sat G w (A::H)):∃h:Hp,(∀b o,h b=some o→w.heap[b]?=some o)∧A h:=by
 obtain⟨a,b,c,h,hw,hh⟩:=hs
 obtain⟨h',s,hh'⟩:=kp hh
 exact⟨h',fun x o e=>hw x o (s x o e),hh'⟩
def dj{H:List HP}{i:Nat}{A:HP}(h:H[i]?=some A):H.Perm (A::H.eraseIdx i):=by
 induction H generalizing i with
 | nil=>simp at h
 | cons B l ih =>
  cases i with
  | zero=>simp at h;subst h;simp
  | succ i =>
   simp at h
   simp only[List.eraseIdx_cons_succ]
   exact((ih h).cons B).trans (List.Perm.swap _ _ _)
def Sat.get{G:cJ}{w:World}{H:List HP}(hs:Sat G w H){i:Nat}{b:Nat}{o:Obj}(hi:H[i]?=some (ae b o)):w.heap[b]?=some o:=by
 obtain⟨h,hw,hh⟩:=(hs.cV (al.perm (dj hi))).head
 exact hw b o (by rw[hh b];simp)
def Sat.lt{G:cJ}{w:World}{H:List HP}(hs:Sat G w H){i:Nat}{b:Nat}{o:Obj}(hi:H[i]?=some (ae b o)):b<w.heap.size:=by
 have:=hs.get hi
 rcases Nat.lt_or_ge b w.heap.size with h|h
 ·exact h
 ·rw[Array.getElem?_eq_none h]at this;cases this
def Sat.ne{G:cJ}{w:World}{b1 b2:Nat}{o1 o2:Obj}{H:List HP}(hs:Sat G w (ae b1 o1::ae b2 o2::H)):b1≠b2:=by
 obtain⟨_,_,_,h,hw,hh⟩:=hs
 obtain⟨h1,h2,ha,hb,hd,he⟩:=hh
 obtain⟨h3,s,ML⟩:=kp hb
 intro e
 have e1:h1 b1=some o1:=by rw[ha b1];simp
 have e2:h2 b2=some o2:=s b2 o2 (by rw[ML b2];simp)
 rcases hd b1 with e3|e3
 ·rw[e1]at e3;cases e3
 ·rw[e,e2]at e3;cases e3
def Sat.draw{G:cJ}{w:World}{H:List HP}(hs:Sat G w H)(n:Nat)(hn:w.drawn≤n:=by first|exact Nat.le_succ _|exact Nat.le_refl _|omega):Sat G { w with drawn:=n } H:=⟨⟨hs.1.1,Nat.le_trans hs.1.2 hn⟩,hs.2⟩
def Sat.alloc{G:cJ}{w:World}{H:List HP}(hs:Sat G w H)(o:Obj):Sat G { w with heap:=w.heap.push o } (ae w.heap.size o::H):=by
 obtain⟨a,b,c,h,hw,hh⟩:=hs
 have de:∀b,h b≠none→b<w.heap.size:=fun b hb=>by
  cases hx:h b with
  | none=>exact absurd hx hb
  | some x =>
   have:=hw b x hx
   rcases Nat.lt_or_ge b w.heap.size with h|h
   ·exact h
   ·rw[Array.getElem?_eq_none h]at this;cases this
 refine⟨a,b,c,fun x=>if x=w.heap.size then some o else h x,fun x o' e=>?_,fun x=>if x=w.heap.size then some o else none,h,fun c=>rfl,hh,fun x=>?_,fun x=>?_⟩
 ·show(w.heap.push o)[x]?=some o'
  by_cases hx:x=w.heap.size
  ·simp only[hx,if_true]at e;cases e;subst hx;simp
  ·simp only[hx,if_false]at e
   have:=de x (by rw[e];simp)
   rw[Array.getElem?_push_lt this,← Array.getElem?_eq_getElem this]
   exact hw x o' e
 ·by_cases hx:x=w.heap.size
  ·right
   cases hn:h x with
   | none=>rfl
   | some y=>exact absurd (de x (by rw[hn];simp)) ag
  ·left;simp[hx]
 ·by_cases hx:x=w.heap.size <;> simp[hx]
def Sat.BW{G:cJ}{w:World}{H:List HP}{b:Nat}{o o':Obj}(hs:Sat G w (ae b o::H)) :
  Sat G { w with heap:=w.heap.setIfInBounds b o' } (ae b o'::H):=by
 have de:b<w.heap.size:=hs.lt (i:=0) rfl
 obtain⟨a,b',c,h,hw,h1,h2,ha,hb,hd,he⟩:=hs
 have vZ:h2 b=none:=by
  rcases hd b with e|e
  ·rw[ha b]at e;simp at e
  ·exact e
 refine⟨a,b',c,fun x=>if x=b then some o' else h x,fun x y e=>?_,fun x=>if x=b then some o' else none,h2,fun _=>rfl,hb,fun x=>?_,fun x=>?_⟩
 ·show(w.heap.setIfInBounds b o')[x]?=some y
  by_cases hx:x=b
  ·simp only[hx,if_true]at e;cases e;subst hx;simp[de]
  ·simp only[hx,if_false]at e
   rw[Array.getElem?_setIfInBounds_ne (Ne.symm hx)]
   exact hw x y e
 ·by_cases hx:x=b
  ·right;rw[hx];exact vZ
  ·left;simp[hx]
 ·by_cases hx:x=b
  ·simp[hx]
  ·simp only[hx,if_false,Option.none_or]
   rw[he x,ha x];simp[hx]
inductive aco where
 | mk (A:HP) (rest:List HP)
 | no
def R9:List HP→List HP→HP→aco
 | [],l,A => .mk A l
 | x::acc,l,A=>R9 acc (x::l) A
def NW:Nat→List HP→List HP→aco
 | _,[],_ => .no
 | 0,A::l,acc=>R9 acc l A
 | i+1,A::l,acc=>NW i l (A::acc)
inductive acp where
 | mk (pre rest:List HP)
 | no
def Sa:List HP→List HP→List HP→acp
 | [],l,r => .mk l r
 | x::acc,l,r=>Sa acc (x::l) r
def adj:List Nat→Nat→Nat
 | [],i=>i
 | r::rs,i=>bif Nat.blt r i then Nat.sub (adj rs i) 1 else adj rs i
def tG:List Nat→List Nat→List HP→List HP→acp
 | [],_,H,acc=>Sa acc [] H
 | i::is,gone,H,acc=>match NW (adj gone i) H []with
  | .mk A r=>tG is (i::gone) r (A::acc)
  | .no => .no
def R8(acc l:List HP)(A B:HP)(r:List HP)(h:R9 acc l A = .mk B r):B=A∧r=acc.reverse++l:=by
 induction acc generalizing l with
 | nil=>simp[R9]at h;simp[h]
 | cons x acc ih=>have:=ih (x::l) h;simp[this]
def AY(i:Nat)(H acc:List HP)(A:HP)(r:List HP)(h:NW i H acc = .mk A r):(acc.reverse++H).Perm (A::r):=by
 induction H generalizing i acc with
 | nil=>cases i <;> simp[NW]at h
 | cons B l ih =>
  cases i with
  | zero =>
   obtain⟨rfl,rfl⟩:=R8 _ _ _ _ _ h
   exact List.perm_middle
  | succ i=>have:=ih i (B::acc) h;simpa using this
def R'(acc l r pre rest:List HP)(h:Sa acc l r = .mk pre rest):pre=acc.reverse++l∧rest=r:=by
 induction acc generalizing l with
 | nil=>simp[Sa]at h;simp[h]
 | cons x acc ih=>have:=ih (x::l) h;simp[this]
def yk(is gone:List Nat)(H acc pre rest:List HP)(h:tG is gone H acc = .mk pre rest):(acc.reverse++H).Perm (pre++rest):=by
 induction is generalizing gone H acc with
 | nil =>
  obtain⟨rfl,rfl⟩:=R' _ _ _ _ _ h
  simp
 | cons i is ih =>
  simp only[tG]at h
  split at h
  ·rename_i A r hr
   have h1:=AY _ _ _ _ _ hr
   have h2:=ih _ _ _ h
   refine List.Perm.trans ?_ h2
   simp only[List.reverse_cons,List.append_assoc,List.singleton_append]
   exact List.Perm.append_left _ (by simpa using h1)
  ·cases h
def Sat.pick{G:cJ}{w:World}{H pre rest:List HP}(is:List Nat)(hs:Sat G w H)(h:tG is [] H [] = .mk pre rest):Sat G w (pre++rest) :=
 hs.cV (al.perm (by simpa using yk is [] H [] pre rest h))
def al.pick{H pre rest:List HP}(is:List Nat)(h:tG is [] H [] = .mk pre rest):al H (pre++rest) :=
 al.perm (by simpa using yk is [] H [] pre rest h)
def al.bE{H pre rest:List HP}(is:List Nat)(h:tG is [] H [] = .mk pre rest):al H pre :=
 (al.pick is h).trans (fun _ hs=>kp (mE hs))
def Sat.set{G:cJ}{w:World}{H:List HP}{i:Nat}{b:Nat}{o o':Obj}(hs:Sat G w H)(hi:H[i]?=some (ae b o)) :
  Sat G { w with heap:=w.heap.setIfInBounds b o' } (ae b o'::H.eraseIdx i) :=
 (hs.cV (al.perm (dj hi))).BW
def uX{w:World}{b:Nat}{l:List Value}{e:TypeId}{off:Nat}{v:Value}(h:w.heap[b]?=some (cl l e)) :
  w.setCell ⟨b,off,none⟩ v={ w with heap:=w.heap.setIfInBounds b (cl (l.set off v) e) }:=by
 have de:b<w.heap.size:=by
  rcases Nat.lt_or_ge b w.heap.size with h'|h'
  ·exact h'
  ·rw[Array.getElem?_eq_none h']at h;cases h
 have hb:w.heap[b]=cl l e:=by rw[Array.getElem?_eq_getElem de]at h;exact Option.some.inj h
 unfold World.setCell
 congr 1
 apply Array.ext
 ·simp
 ·intro i h1 h2
  by_cases hi:b=i
  ·subst hi
   simp[Array.getElem_modify,hb,cl]
  ·have h3:i<w.heap.size:=by simpa using h2
   rw[Array.getElem_modify,Array.getElem_setIfInBounds h3]
   simp[hi]
def dJ{w:World}{b:Nat}{l:List Value}{e:TypeId}{off:Nat}(h:w.heap[b]?=some (cl l e)):w.cell? ⟨b,off,none⟩=l[off]? := by
 simp[World.cell?,h,cl]
def lB{w:World}{b:Nat}{l:List Value}{e:TypeId}{off:Nat}(h:w.heap[b]?=some (cl l e)):w.frozen? ⟨b,off,none⟩=false:=by
 simp only[World.frozen?,h,cl];simp
abbrev fJ:=List (Nat × Value)
def ej:fJ→Nat→Option Value
 | [],_=>none
 | (s,v)::l,t=>bif Nat.beq s t then some v else ej l t
def Has(n:Nat)(L:fJ)(a:Act):Prop:=a.tmps.size=n∧True∧∀t v,ej L t=some v→a.tmps[t]?=some v
def ev(L:fJ):Operand→Option Value
 | .tmp t=>ej L t
 | .const v=>some v
 | .func f=>some (.func (.func f) #[] #[])
 | .global g=>some (.pointer (some ⟨g,0,none⟩))
def Has.ev{n:Nat}{L:fJ}{a:Act}{x:Operand}{v:Value}(h:Has n L a)(e:ev L x=some v):a.eval x=v:=by
 cases x with
 | tmp t=>simp only[SL.ev]at e;have:=h.2.2 t v e;simp[Act.eval,Array.getD_eq_getD_getElem?,this]
 | const c=>simp only[SL.ev]at e;cases e;rfl
 | global g=>simp only[SL.ev]at e;cases e;rfl
 | func f=>simp only[SL.ev]at e;cases e;rfl
def Has.put{n:Nat}{L:fJ}{a:Act}{d:Nat}(h:Has n L a)(hd:Nat.blt d n=true)(v:Value):Has n ((d,v)::L) (a.put (some d) v):=by
 have hd':d<a.tmps.size:=by rw[h.1];simpa[Nat.blt_eq]using hd
 refine⟨by simpa[Act.put]using h.1,h.2.1,fun t u e=>?_⟩
 simp only[ej]at e
 cases hb:Nat.beq d t with
 | true =>
  have:d=t:=Nat.eq_of_beq_eq_true hb
  subst this
  simp only[hb,cond_true]at e
  cases e
  simp[Act.put,hd']
 | false =>
  simp only[hb,cond_false]at e
  have bY:d≠t:=Nat.ne_of_beq_eq_false hb
  simp only[Act.put,Array.getElem?_setIfInBounds_ne bY]
  exact h.2.2 t u e
def Has.sub{n:Nat}{L L':fJ}{a:Act}(h:Has n L a)(hs:∀t v,ej L' t=some v→ej L t=some v):Has n L' a :=
 ⟨h.1,h.2.1,fun t v e=>h.2.2 t v (hs t v e)⟩
inductive L8 where
 | mk (vs:List Value)
 | no
def Cy:List Value→List Value→L8
 | [],l => .mk l
 | x::acc,l=>Cy acc (x::l)
def Gg(L:fJ):List Operand→List Value→L8
 | [],acc=>Cy acc []
 | x::xs,acc=>match ev L x with
  | some v=>Gg L xs (v::acc)
  | none => .no
def rp(acc l vs:List Value)(h:Cy acc l = .mk vs):vs=acc.reverse++l:=by
 induction acc generalizing l with
 | nil=>simp[Cy]at h;simp[h]
 | cons x acc ih=>have:=ih (x::l) h;simp[this]
def Yo{n:Nat}{L:fJ}{a:Act}(ha:Has n L a)(xs:List Operand)(acc vs:List Value)(h:Gg L xs acc = .mk vs):vs=acc.reverse++xs.map a.eval:=by
 induction xs generalizing acc with
 | nil=>have:=rp _ _ _ h;simpa using this
 | cons x xs ih =>
  simp only[Gg]at h
  split at h
  ·rename_i v hv
   have:=ih _ h
   rw[this,List.map_cons,ha.ev hv]
   simp
  ·cases h
def nf{n:Nat}{L:fJ}{a:Act}(ha:Has n L a)(xs:Array Operand)(vs:List Value)(h:Gg L xs.toList [] = .mk vs):xs.map a.eval=vs.toArray:=by
 have:=Yo ha _ _ _ h
 apply Array.ext'
 simp[this]
def mark(r:Nat):Deferred:={ target := .collected r,args := #[] }
def sZ(G:cJ)(n:Nat)(L:fJ)(a:Act):Prop:=Has n L a∧a.defers=G.ds.map mark
def sZ.ev{G:cJ}{n:Nat}{L:fJ}{a:Act}{x:Operand}{v:Value}(h:sZ G n L a)(e:SL.ev L x=some v):a.eval x=v:=h.1.ev e
def sZ.put{G:cJ}{n:Nat}{L:fJ}{a:Act}{d:Nat}(h:sZ G n L a)(hd:Nat.blt d n=true)(v:Value):sZ G n ((d,v)::L) (a.put (some d) v):=⟨h.1.put hd v,h.2⟩
def sZ.sub{G:cJ}{n:Nat}{L L':fJ}{a:Act}(h:sZ G n L a)(hs:∀t v,ej L' t=some v→ej L t=some v):sZ G n L' a:=⟨h.1.sub hs,h.2⟩
def sZ.get{G:cJ}{n:Nat}{L:fJ}{a:Act}(h:sZ G n L a){t:Nat}{v:Value}(e:ej L t=some v):a.tmps[t]?=some v:=h.1.2.2 t v e
def fw(ro:Option Nat):Fence:={ fn:=fun _=>True,depth:=none,alive:=false,round:=ro }
def vj(P:Program)(ro:Option Nat)(m:Machine):m.fenced P (fw ro):=fun _ _=>⟨fun h=>by simp[fw]at h,.inl trivial,fun _ _=>trivial,fun _ h=>by simp[fw]at h⟩
def QZ(ro:Option Nat)(n:Nat):(fw ro).room n:=fun _ h=>by simp[fw]at h
def HX{ro:Option Nat}{n:Nat}{P:Program}{f:FuncId}{args:Array Value}{w:World}{R:Ending→World→Prop}(h:Calls P f args w R):CallsIn (fw ro) n P f args w R :=
  ⟨trivial,fun cs _=>by
    obtain⟨e,w',fr,r,s,x⟩:=h cs
    refine⟨e,w',fr,r,?_,x⟩
    cases e with
    | returned v=>exact(StepsIn.of_steps s).mono fun m _=>vj P ro m
    | panicked c=>exact(StepsIn.of_steps s).mono fun m _=>vj P ro m
    | outgrown=>exact s⟩
def bf(ro:Option Nat)(f:FuncId)(a:Act)(k:List Item):Frame:=({ (default:Frame)with fn:=f,kind := .normal,roundOf:=ro }:Frame).atR a k
def L7(P:Program)(f:FuncId)(R:Ending→World→Prop)(cs:List Frame)(m:Machine):Option Nat→Prop
 | none=>∃e w' fr,R e w'∧Comes P m (lone fr cs w') e∧fr.fn=f∧fr.leaving P w' e
 | some _=>∀c j9,cs=c::j9→∃v w',R (.returned v) w'∧Steps P m (lone (c.finish v) j9 w')
def L7.of_steps{P:Program}{f:FuncId}{R:Ending→World→Prop}{cs:List Frame}{m m':Machine}{ro:Option Nat}(hs:Steps P m m')(h:L7 P f R cs m' ro):L7 P f R cs m ro:=by
 cases ro with
 | none=>obtain⟨e,w',fr,hR,hc,h1⟩:=h;exact⟨e,w',fr,hR,Comes.of_steps hs hc,h1⟩
 | some l=>intro c j9 j7;obtain⟨v,w',hR,hc⟩:=h c j9 j7;exact⟨v,w',hR,hs.trans hc⟩
def Ok(P:Program)(f:FuncId)(R:Ending→World→Prop)(ro:Option Nat)(k:List Item)(a:Act)(w:World):Prop :=
 ∀cs,L7 P f R cs (lone (bf ro f a k) cs w) ro
def K(P:Program)(f:FuncId)(n:Nat)(R:Ending→World→Prop)(G:cJ)(k:List Item)(L:fJ)(H:List HP):Prop :=
 ∀a w,sZ G n L a→Sat G w H→Ok P f R G.ro k a w
def Qk(P:Program)(f:FuncId)(R:Ending→World→Prop)(ro:Option Nat)(k:List Item):Exit→Act→World→Prop
 | .normal,a,w=>Ok P f R ro k a w
 | _,_,_=>False
inductive Pl where
 | nil
 | cons (m g:Bool) (o:Oper) (rest:Pl)
 | fork (l r:Pl)
def Sx:Pl→(World→Prop)→World→Prop
 | .nil,_,_=>True
 | .cons _ _ _ _,S,w=>S w
 | .fork _ _,S,w=>S w
def Sx.of{rest:Pl}{S:World→Prop}{w:World}(h:S w):Sx rest S w:=by cases rest <;> first|exact trivial|exact h
def MC(P:Program)(ro:Option Nat)(S:World→Prop)(Q:Exit→Act→World→Prop)(all:Array Oper):Pl→Act→World→Prop
  | .nil,a,w=>Q .normal a w
  | .cons m g o rest,a,w =>
    ((g=true∨Region.wanted o (yielded all a.tmps)=true) ∧
      ((m=true∧∃v,(∀w,S w→(execOp a.eval o).run P w = .ok (.value v) w)∧MC P ro S Q all rest (a.put o.dst v) w) ∨
       (m=false∧o.wpIn (fw ro) 0 P a w (fun a' w'=>Sx rest S w'∧MC P ro S Q all rest a' w') Q))) ∨
    (g=false∧Region.wanted o (yielded all a.tmps)=false∧MC P ro S Q all rest (a.put o.dst undef) w)
  | .fork l r,a,w=>MC P ro S Q all l a w∧MC P ro S Q all r a w
def J(P:Program)(f:FuncId)(n:Nat)(R:Ending→World→Prop)(G:cJ)(S:World→Prop)(all:Array Oper)(rest:Pl)(k:List Item)(L:fJ)(H:List HP):Prop :=
 ∀a w,sZ G n L a→Sat G w H→Sx rest S w→MC P G.ro S (Qk P f R G.ro k) all rest a w
def tL:Option (Nat × Bool)→Bool
 | none=>true
 | _=>false
def items:List Oper→Pl
 | [] => .nil
 | o::l => .cons false (tL o.guard) o (items l)
def xZ{P:Program}{ρ:Operand→Value}{o:Oper}{w w':World}{v:Value}(ro:Option Nat)(h:(execOp ρ o).run P w = .ok (.value v) w'):o.semAt ro ρ=execOp ρ o:=by
 refine Oper.semAt_eq ro ρ o fun c hc=>?_
 obtain⟨d,op,ty,pos,af,gd⟩:=o
 simp only at hc
 subst hc
 simp only[execOp,Sem.run_bind]at h
 cases hr:(resolve ρ c ty).run P w with
 | ok d' w1=>rw[hr]at h;simp at h
 | halt x w1=>rw[hr]at h;simp at h
def iD{P:Program}{ro:Option Nat}{o:Oper}{a:Act}{w w':World}{v:Value}{next:Act→World→Prop}{Q:Exit→Act→World→Prop}(h:(execOp a.eval o).run P w = .ok (.value v) w')(hn:next (a.put o.dst v) w'):o.wpIn (fw ro) 0 P a w next Q:=by
 refine⟨fun _ _=>trivial,?_⟩
 show o.uponIn (fw ro) 0 P a next Q ((o.semAt ro a.eval).run P w)
 rw[xZ ro h,h]
 exact hn
def lW{P:Program}{ro:Option Nat}{o:Oper}{a:Act}{w:World}{next:Act→World→Prop}{Q:Exit→Act→World→Prop}{r:Result Next}(ho:∀c,o.op ≠ .defer c)(h:(execOp a.eval o).run P w=r)(hn:o.uponIn (fw ro) 0 P a next Q r):o.wpIn (fw ro) 0 P a w next Q:=by
 refine⟨fun _ _=>trivial,?_⟩
 show o.uponIn (fw ro) 0 P a next Q ((o.semAt ro a.eval).run P w)
 rw[Oper.semAt_eq ro a.eval o ho,h]
 exact hn
def wpIn_skip{P:Program}{ro:Option Nat}{o:Oper}{a:Act}{w w':World}{next:Act→World→Prop}{Q:Exit→Act→World→Prop}(h:(execOp a.eval o).run P w = .ok .skip w')(hn:next (a.put o.dst undef) w'):o.wpIn (fw ro) 0 P a w next Q:=by
 refine lW (fun c hc=>?_) h hn
 obtain⟨d,op,ty,pos,af,gd⟩:=o
 simp only at hc
 subst hc
 simp only[execOp,Sem.run_bind]at h
 cases hr:(resolve a.eval c ty).run P w with
 | ok d' w1=>rw[hr]at h;simp at h
 | halt x w1=>rw[hr]at h;simp at h
def uN{P:Program}{ro:Option Nat}{o:Oper}{a:Act}{w:World}{f:FuncId}{args:Array Value}{w':World}{next:Act→World→Prop}{Q:Exit→Act→World→Prop}(ho:∀c,o.op ≠ .defer c)(h:(execOp a.eval o).run P w = .ok (.enter f args) w')(hn:Calls P f args w' fun e Zv=>∃v,e = .returned v∧next (a.put o.dst v) Zv):o.wpIn (fw ro) 0 P a w next Q:=by
 refine lW ho h ⟨fun h=>by simp[fw]at h,HX (hn.mono ?_)⟩
 rintro e Zv⟨v,rfl,h⟩
 exact h
section
variable{P:Program}{f:FuncId}{n:Nat}{R:Ending→World→Prop}{G:cJ}{k:List Item}{L:fJ}{H:List HP}
def acr{c:Code}(h:∀a w,sZ G n L a→Sat G w H→c.wpIn (fw G.ro) 0 P (Qk P f R G.ro k) a w):K P f n R G (.code c::k) L H:=by
 intro a w ha hw cs
 obtain⟨e,a',w',hq,ad'⟩:=h a w ha hw ({ (default:Frame)with fn:=f,kind := .normal,roundOf:=G.ro }:Frame) k cs rfl trivial (QZ _ _)
 cases e with
 | normal=>exact(hq cs).of_steps (StepsIn.steps ad')
 | exit id=>exact hq.elim
 | goto l=>exact hq.elim
 | ret=>exact hq.elim
 | panic c=>exact hq.elim
 | outgrown=>exact hq.elim
def qD{k':List Item}(hs:∀a cs w,step P (lone (bf G.ro f a k) cs w) = .next (lone (bf G.ro f a k') cs w))(h:K P f n R G k' L H):K P f n R G k L H :=
 fun a w ha hw cs=>(h a w ha hw cs).of_steps (.one (hs a cs w))
def JP{L':fJ}(hs:∀t v,ej L' t=some v→ej L t=some v)(h:K P f n R G k L' H):K P f n R G k L H :=
 fun a w ha hw=>h a w (ha.sub hs) hw
def ai{H':List HP}(he:al H H')(h:K P f n R G k L H'):K P f n R G k L H :=
 fun a w ha hw=>h a w ha (hw.cV he)
def sk(h:(∃w,Sat G w H)→K P f n R G k L H):K P f n R G k L H:=fun a w ha hw=>h ⟨w,hw⟩ a w ha hw
def eG{α:Type}{A:HP}{B:α→List HP}{q:α→Prop}(hA:∀h,A h→∃x,q x∧Sep (B x) h)(h:∀x,q x→K P f n R G k L (B x++H)):K P f n R G k L (A::H):=by
 intro a w ha hw
 obtain⟨t,o,u,hp,K3,h1,h2,sP,hH,hd,he⟩:=hw
 obtain⟨x,hx,hB⟩:=hA _ sP
 exact h x hx a w ha ⟨t,o,u,hp,K3,jK ⟨h1,h2,hB,hH,hd,he⟩⟩
variable{S:World→Prop}{all:Array Oper}{rest:Pl}
def P5{L':fJ}(hs:∀t v,ej L' t=some v→ej L t=some v)(h:J P f n R G S all rest k L' H):J P f n R G S all rest k L H :=
 fun a w ha hw=>h a w (ha.sub hs) hw
def aI{H':List HP}(he:al H H')(h:J P f n R G S all rest k L H'):J P f n R G S all rest k L H :=
 fun a w ha hw=>h a w ha (hw.cV he)
def zK(h:∀w,Sat G w H→J P f n R G S all rest k L H):J P f n R G S all rest k L H:=fun a w ha hw=>h w hw a w ha hw
def Ip{α:Type}{A:HP}{B:α→List HP}{q:α→Prop}(hA:∀h,A h→∃x,q x∧Sep (B x) h)(h:∀x,q x→J P f n R G S all rest k L (B x++H)):J P f n R G S all rest k L (A::H):=by
 intro a w ha hw
 obtain⟨t,o,u,hp,K3,h1,h2,sP,hH,hd,he⟩:=hw
 obtain⟨x,hx,hB⟩:=hA _ sP
 exact h x hx a w ha ⟨t,o,u,hp,K3,jK ⟨h1,h2,hB,hH,hd,he⟩⟩
def FO(h:K P f n R G k L H):J P f n R G S all .nil k L H:=fun a w ha hw _=>h a w ha hw
def qL{l r:Pl}(h1:J P f n R G S all l k L H)(h2:J P f n R G S all r k L H):J P f n R G S all (.fork l r) k L H:=fun a w ha hw hS=>⟨h1 a w ha hw (Sx.of hS),h2 a w ha hw (Sx.of hS)⟩
def jN{o:Oper}{y:Nat→Option Bool}(h:tL o.guard=true):Region.wanted o y=true:=by
 unfold tL at h
 unfold Region.wanted
 split <;> simp_all
def BM{ro:Option Nat}{Q:Exit→Act→World→Prop}(l:List Oper):∀(i:Nat) (a:Act) (w:World),(∀j,all[i+j]?=l[j]?) →
  MC P ro (fun _=>True) Q all (items l) a w→wpOpsIn (fw ro) 0 P all Q (List.range' i l.length) a w:=by
 induction l with
 | nil=>exact fun i a w _ h=>h
 | cons o l ih =>
  intro i a w hl h
  have h0:all[i]?=some o:=by simpa using hl 0
  have Ld:∀j,all[i+1+j]?=l[j]? := fun j=>by have:=hl (j+1);simp at this;rw[← this];congr 1;omega
  simp only[List.length_cons,List.range'_succ,wpOpsIn,h0]
  simp only[items,MC]at h
  rcases h with⟨hg,⟨hm,_⟩|⟨_,hw⟩⟩|⟨_,hw,h⟩
  ·cases hm
  ·have EB:Region.wanted o (yielded all a.tmps)=true:=hg.elim jN id
   simp only[EB,if_true]
   exact Oper.wpIn_mono (fun a' w' h'=>ih (i+1) a' w' Ld h'.2) hw
  ·simp only[hw,Bool.false_eq_true,if_false]
   exact⟨fun _ _=>trivial,ih (i+1) _ w Ld h⟩
def P3{id:Nat}{ops:Array Oper}(h:J P f n R G (fun _=>True) ops (items ops.toList) k L H):K P f n R G (.code (.region id ops false)::k) L H :=
 acr fun a w ha hw=>wpIn_region (by
  have:=BM (P:=P) (all:=ops) (Q:=Qk P f R G.ro k) ops.toList 0 a w (by simp) (h a w ha hw (Sx.of (S:=fun _=>True) trivial))
  rw[List.range_eq_range']
  simpa using this)
inductive Pt where
 | nil
 | st (i:Nat) (p:Pt)
 | act (i:Nat) (p:Pt)
 | fork (l r:Pt)
def eT(all:Array Oper):Pt→Pl
 | .nil => .nil
 | .st i p=>match all.toList[i]? with
  | some o => .cons true (tL o.guard) o (eT all p)
  | none=>eT all p
 | .act i p=>match all.toList[i]? with
  | some o => .cons false (tL o.guard) o (eT all p)
  | none=>eT all p
 | .fork l r => .fork (eT all l) (eT all r)
def Pt.qn:Pt→List Nat
 | .act i _=>[i]
 | .fork l r=>l.qn++r.qn
 | _=>[]
def Pt.depth:Pt→Nat
 | .nil=>0
 | .st _ p=>p.depth+1
 | .act _ p=>p.depth+1
 | .fork l r=>max l.depth r.depth
def Pt.isNil:Pt→Bool
 | .nil=>true
 | _=>false
def D9(all:Array Oper)(i:Nat):List Nat:=match all[i]? with
 | some o=>(o.after.toList.filter fun e=>Region.binds .any e).map (·.on)
 | none=>[]
def pass(all:Array Oper):Nat→List Nat→List Nat
 | 0,s=>s
 | k+1,s=>pass all k (if s.contains k then D9 all k++s else s)
def oY(all:Array Oper)(j:Nat):Bool:=(List.range all.size).all fun i=>Nat.beq i j || (pass all all.size (D9 all j)).contains i
def eO(all:Array Oper):Bool→Pt→Array Bool→Bool
 | top,.nil,listed=>top && (Region.ready .any all listed).isEmpty
 | top,.st i p,listed=>top && decide (i<all.size) && Region.free .any all listed i && (Region.ready .any all listed).contains i && eO all true p (listed.setIfInBounds i true)
 | top,.act i p,listed=>(!top || (Region.ready .any all listed).all (fun j=>Nat.beq j i)) && (Region.ready .any all listed).contains i && decide (i<all.size) && (!p.isNil || oY all i) && eO all true p (listed.setIfInBounds i true)
 | top,.fork l r,listed=>(!top || (Region.ready .any all listed).all (fun j=>(l.qn++r.qn).contains j)) && eO all false l listed && eO all false r listed
def Eh(ops:Array Oper):Bool:=ops.toList.all fun o=>match o.op with
 | .defer _=>false
 | _=>true
def G7{ops:Array Oper}(h:Eh ops=true){j:Nat}{o:Oper}(hj:ops[j]?=some o):∀c,o.op ≠ .defer c:=by
 intro c hc
 have hm:o∈ops.toList:=by
  have:ops.toList[j]?=some o:=by simpa using hj
  exact List.mem_of_getElem? this
 have:=List.all_eq_true.1 h o hm
 rw[hc]at this
 cases this
def SK(P:Program)(ro:Option Nat)(ops:Array Oper)(Q:Exit→Act→World→Prop)(S:World→Prop):Nat→Array Bool→Act→World→Prop
 | 0,listed,a,w=>Region.ready .any ops listed=[]∧Q .normal a w
 | fuel+1,listed,a,w =>
  (Region.ready .any ops listed=[]→Q .normal a w) ∧
  ∀i∈Region.ready .any ops listed,wpOpIn (fw ro) 0 P ops Q i (fun a' w'=>(S w'∨oY ops i=true)∧SK P ro ops Q S fuel (listed.setIfInBounds i true) a' w') a w
def tm{P:Program}{ro:Option Nat}{ops:Array Oper}{Q:Exit→Act→World→Prop}{S:World→Prop}:∀(fuel:Nat) (listed:Array Bool) (a:Act) (w:World),SK P ro ops Q S fuel listed a w→wpAnyIn (fw ro) 0 P .any ops Q fuel listed a w
 | 0,_,_,_,h=>h
 | fuel+1,_,_,_,h=>⟨h.1,fun i hi=>wpOpIn_mono (fun a' w' h'=>tm fuel _ a' w' h'.2) (h.2 i hi)⟩
def vD{P:Program}{ro:Option Nat}{ops:Array Oper}{Q:Exit→Act→World→Prop}{S:World→Prop}{i:Nat}{o:Oper}{v:Value}{a:Act}(hi:ops[i]?=some o)(hy:YieldsIf P ops S o v a){K:Act→World→Prop}{w:World}(hS:S w)(h:K (a.put o.dst v) w):wpOpIn (fw ro) 0 P ops Q i K a w:=by
 unfold wpOpIn
 simp only[hi]
 rcases hy with⟨hw,hv⟩|⟨hw,rfl⟩
 ·simp only[hw,if_true];exact iD (hv w hS) h
 ·simp only[hw,Bool.false_eq_true,if_false];exact⟨fun _ _=>trivial,h⟩
def wpOp_put{P:Program}{ro:Option Nat}{ops:Array Oper}{Q:Exit→Act→World→Prop}{S:World→Prop}{j:Nat}{oi oj:Oper}{v:Value}(hj:ops[j]?=some oj)(Ge:oi.apart ops oj=true)(hsi:∀cs b,oi.op ≠ .select cs b)(hsj:∀cs b,oj.op ≠ .select cs b)(X2:∀c,oj.op ≠ .defer c)(hQ:∀c a w,Q (.panic c) (a.put oi.dst v) w→Q (.panic c) a w){K:Act→World→Prop}{a:Act}{w:World}(hy:YieldsIf P ops S oi v a)(h:wpOpIn (fw ro) 0 P ops Q j K (a.put oi.dst v) w) :
  wpOpIn (fw ro) 0 P ops Q j (fun a' w'=>YieldsIf P ops S oi v a'∧K (a'.put oi.dst v) w') a w:=by
 obtain⟨h1,h2,h3⟩:=Oper.apart_spec Ge
 have stay:∀u,YieldsIf P ops S oi v (a.put oj.dst u):=fun u=>hy.of_same (execOp_put oi hsi a oj.dst u h3) (wanted_put oi a oj.dst u h3)
 have on:∀u w',K ((a.put oi.dst v).put oj.dst u) w'→YieldsIf P ops S oi v (a.put oj.dst u)∧K ((a.put oj.dst u).put oi.dst v) w':=fun u w' hk=>⟨stay u,by rw[← Act.put_comm a v u h2];exact hk⟩
 unfold wpOpIn at h ⊢
 rw[hj]at h ⊢
 simp only[wanted_put oj a oi.dst v h1]at h ⊢
 cases hw:Region.wanted oj (yielded ops a.tmps)with
 | false=>simp only[hw,Bool.false_eq_true,if_false]at h ⊢;exact⟨fun _ _=>trivial,on _ _ h.2⟩
 | true =>
  simp only[hw,if_true]at h ⊢
  have h:=h.2
  rw[show(fw ro).round=ro from rfl,Oper.semAt_eq ro _ oj X2,execOp_put oj hsj a oi.dst v h1]at h
  refine lW X2 rfl ?_
  generalize (execOp a.eval oj).run P w=r at h ⊢
  cases r with
  | ok x w' =>
   cases x <;> simp only[Oper.uponIn]at h ⊢
   case value u=>exact on _ _ h
   case skip=>exact on _ _ h
   case defer d=>exact⟨hy.of_same zr zr |>.of_same (execOp_put oi hsi _ oj.dst undef h3) (wanted_put oi _ oj.dst undef h3),by rw[← Act.put_comm _ v undef h2,← Act.put_defers];exact h⟩
   case enter f args =>
    refine⟨h.1,CallsIn.mono h.2 fun e Zv he=>?_⟩
    cases e with
    | returned u=>exact on _ _ he
    | panicked c=>exact hQ _ _ _ he
    | outgrown=>exact he
   case row row args=>exact⟨h.1,RowsIn.mono h.2 fun u Zv he=>on _ _ he⟩
   case round l f tmps assign body =>
    refine⟨h.1,RoundIn.mono h.2 fun e Zv he=>?_⟩
    cases e with
    | returned u=>exact on _ _ he
    | panicked c=>exact hQ _ _ _ he
    | outgrown=>exact he
  | halt x w' =>
   cases x <;> simp only[Oper.uponIn]at h ⊢
   case panic u=>exact hQ _ _ _ h
def Down(ops:Array Oper)(listed:Array Bool):Prop:=listed.size=ops.size∧∀i,i<ops.size→listed.getD i false=true→∀p∈D9 ops i,listed.getD p false=true
def vM{ops:Array Oper}{listed:Array Bool}{i:Nat}(h:i∈Region.ready .any ops listed):∀p∈D9 ops i,listed.getD p false=true:=by
 obtain⟨h0,o,ho,fH⟩:=mem_ready.1 h
 intro p hp
 simp only[D9,ho,List.mem_map,List.mem_filter]at hp
 obtain⟨e,⟨he,hb⟩,rfl⟩:=hp
 exact fH e (by simpa using he) hb
def Down.set{ops:Array Oper}{listed:Array Bool}{i:Nat}(hd:Down ops listed)(h:i∈Region.ready .any ops listed):Down ops (listed.setIfInBounds i true):=by
 refine⟨by simp[hd.1],fun j hj hl p hp=>?_⟩
 have ql:∀q,listed.getD q false=true→(listed.setIfInBounds i true).getD q false=true:=fun q hq=>getD_set_true hq
 by_cases Bg:i=j
 ·subst Bg;exact ql p (vM h p hp)
 ·rw[getD_set_ne false Bg]at hl
  exact ql p (hd.2 j hj hl p hp)
def Ec{ops:Array Oper}{listed:Array Bool}(hd:Down ops listed):∀(k:Nat) (s:List Nat),k≤ops.size→(∀x∈s,listed.getD x false=true)→∀x∈pass ops k s,listed.getD x false=true:=by
 intro k
 induction k with
 | zero=>intro s _ h x hx;exact h x hx
 | succ k ih =>
  intro s hk h x hx
  simp only[pass]at hx
  refine ih _ ag ?_ x hx
  intro y hy
  split at hy
  ·rename_i hc
   rcases List.mem_append.1 hy with hy|hy
   ·exact hd.2 k ag (h k (by simpa using hc)) y hy
   ·exact h y hy
  ·exact h y hy
def Ew{ops:Array Oper}{listed:Array Bool}{j:Nat}(hd:Down ops listed)(h:j∈Region.ready .any ops listed)(hl:oY ops j=true){i:Nat}(hi:i<ops.size)(bY:j≠i):listed.getD i false=true:=by
 simp only[oY,List.all_eq_true,List.mem_range,Bool.or_eq_true]at hl
 rcases hl i hi with h1|h1
 ·exact absurd (Nat.eq_of_beq_eq_true h1).symm bY
 ·exact Ec hd _ _ (Nat.le_refl _) (vM h) i (by simpa using h1)
def Ax{P:Program}{ro:Option Nat}{ops:Array Oper}{Q:Exit→Act→World→Prop}{S:World→Prop}{i:Nat}{oi:Oper}{v:Value}(hi:ops[i]?=some oi)(aba:∀(j:Nat) (o:Oper) cs b,ops[j]?=some o→o.op ≠ .select cs b)(adX:Eh ops=true)(hQ:∀c a w,Q (.panic c) (a.put oi.dst v) w→Q (.panic c) a w) :
  ∀(fuel:Nat) (listed:Array Bool) (a:Act) (w:World),Down ops listed →
   (∀j oj,ops[j]?=some oj→j≠i→listed.getD j true=false→(∀e∈oj.after,Region.binds .any e=true→e.on≠i)→oi.apart ops oj=true) →
   i∈Region.ready .any ops listed→YieldsIf P ops S oi v a→S w →
   SK P ro ops Q S fuel (listed.setIfInBounds i true) (a.put oi.dst v) w→SK P ro ops Q S (fuel+1) listed a w:=by
 intro fuel
 have adL:i<ops.size:=(Array.getElem?_eq_some_iff.1 hi).1
 induction fuel with
 | zero =>
  intro listed a w _ _ hr hy hS H
  refine⟨fun h=>(by rw[h]at hr;cases hr),fun j hj=>?_⟩
  by_cases Cp:j=i
  ·subst Cp;exact vD hi hy hS ⟨.inl hS,H⟩
  ·have:=ready_mono hj Cp
   rw[H.1]at this
   cases this
 | succ fuel ih =>
  intro listed a w Ts ER hr hy hS H
  refine⟨fun h=>(by rw[h]at hr;cases hr),fun j hj=>?_⟩
  by_cases Cp:j=i
  ·subst Cp;exact vD hi hy hS ⟨.inl hS,H⟩
  ·have h1:=H.2 j (ready_mono hj Cp)
   obtain⟨abz,oj,Y8,fH⟩:=mem_ready.1 hj
   have h0:=(mem_ready.1 hr).1
   have wF:∀e∈oj.after,Region.binds .any e=true→e.on≠i:=fun e he hb heq=>by
    have h1:=fH e he hb
    rw[heq]at h1
    rcases Nat.lt_or_ge i listed.size with h'|h'
    ·simp[h']at h0 h1;rw[h0]at h1;cases h1
    ·simp[Array.getElem?_eq_none h']at h1
   have EJ:oY ops j≠true:=fun hl=>by
    have h1:=Ew Ts hj hl adL Cp
    rcases Nat.lt_or_ge i listed.size with h'|h'
    ·simp[h']at h0 h1;rw[h0]at h1;cases h1
    ·simp[Array.getElem?_eq_none h']at h1
   have h2:=wpOp_put Y8 (ER j oj Y8 Cp abz wF) (fun cs b=>aba i oi cs b hi) (fun cs b=>aba j oj cs b Y8) (G7 adX Y8) hQ hy h1
   have XX:∀k ok,ops[k]?=some ok→k≠i→(listed.setIfInBounds j true).getD k true=false →
     (∀e∈ok.after,Region.binds .any e=true→e.on≠i)→oi.apart ops ok=true:=fun k ok hk hki hun jI=>by
    refine ER k ok hk hki ?_ jI
    by_cases Be:j=k
    ·subst Be;exact abz
    ·rw[getD_set_ne true Be]at hun;exact hun
   refine wpOpIn_mono (fun a' w' h3=>?_) h2
   have Pa:S w':=h3.2.1.resolve_right EJ
   refine⟨.inl Pa,ih (listed.setIfInBounds j true) a' w' (Ts.set hj) XX (ready_mono hr (Ne.symm Cp)) h3.1 Pa ?_⟩
   rw[Array.setIfInBounds_comm _ _ Cp]
   exact h3.2.2
def Gj{ro:Option Nat}{Q:Exit→Act→World→Prop}(hQ:∀c a w,¬Q (.panic c) a w)(QB:Region.noSelect all=true)(kj:Eh all=true)(p:Pt) :
  ∀(fuel:Nat) (listed:Array Bool) (a:Act) (w:World),Down all listed→p.depth≤fuel→(p.depth≠0→S w)→MC P ro S Q all (eT all p) a w →
  (eO all true p listed=true→SK P ro all Q S fuel listed a w) ∧
  (eO all false p listed=true→∀i∈p.qn,∃g,fuel=g+1∧wpOpIn (fw ro) 0 P all Q i (fun a' w'=>(S w'∨oY all i=true)∧SK P ro all Q S g (listed.setIfInBounds i true) a' w') a w):=by
 induction p with
 | nil =>
  intro fuel listed a w hd hf hS h
  refine⟨fun hp=>?_,fun hp=>by simp[eO]at hp⟩
  simp only[eO,Bool.true_and,List.isEmpty_iff]at hp
  cases fuel with
  | zero=>exact⟨hp,h⟩
  | succ g=>exact⟨fun _=>h,by rw[hp];simp⟩
 | st i p ih =>
  intro fuel listed a w hd hf hS h
  refine⟨fun hp=>?_,fun hp=>by simp[eO]at hp⟩
  obtain⟨fuel,rfl⟩:∃g,fuel=g+1:=⟨fuel-1,by simp[Pt.depth]at hf;omega⟩
  have MH:p.depth≤fuel:=by simp[Pt.depth]at hf;omega
  have Yf:=hS (by simp[Pt.depth])
  simp only[eO,Bool.true_and,Bool.and_eq_true,decide_eq_true_eq]at hp
  obtain⟨⟨⟨hi,ER⟩,yH⟩,tk⟩:=hp
  have ho:all[i]?=some all[i]:=by simp[hi]
  have ho':all.toList[i]?=some all[i]:=by simp[hi]
  have rY:i∈Region.ready .any all listed:=by simpa using yH
  simp only[eT,ho',MC]at h
  have hq:∀(v:Value),∀c (a:Act) w,Q (.panic c) (a.put all[i].dst v) w→Q (.panic c) a w:=fun v c a w hq=>(hQ c _ w hq).elim
  rcases h with⟨hg,⟨_,v,hv,h⟩|⟨hm,_⟩⟩|⟨_,hw,h⟩
  ·have EB:Region.wanted all[i] (yielded all a.tmps)=true:=hg.elim jN id
   exact Ax ho (Region.noSelect_spec QB) kj (hq v) fuel listed a w hd (Region.free_spec ho ER) rY (.inl ⟨EB,hv⟩) Yf ((ih fuel _ _ w (hd.set rY) MH (fun _=>Yf) h).1 tk)
  ·cases hm
  ·exact Ax ho (Region.noSelect_spec QB) kj (hq undef) fuel listed a w hd (Region.free_spec ho ER) rY (.inr ⟨hw,rfl⟩) Yf ((ih fuel _ _ w (hd.set rY) MH (fun _=>Yf) h).1 tk)
 | act i p ih =>
  intro fuel listed a w hd hf hS h
  obtain⟨fuel,rfl⟩:∃g,fuel=g+1:=⟨fuel-1,by simp[Pt.depth]at hf;omega⟩
  have MH:p.depth≤fuel:=by simp[Pt.depth]at hf;omega
  have Yf:=hS (by simp[Pt.depth])
  have key:i∈Region.ready .any all listed→i<all.size→((!p.isNil || oY all i)=true)→eO all true p (listed.setIfInBounds i true)=true →
    wpOpIn (fw ro) 0 P all Q i (fun a' w'=>(S w'∨oY all i=true)∧SK P ro all Q S fuel (listed.setIfInBounds i true) a' w') a w:=by
   intro rY hi k8 tk
   have ho:all[i]?=some all[i]:=by simp[hi]
   have ho':all.toList[i]?=some all[i]:=by simp[hi]
   simp only[eT,ho',MC]at h
   unfold wpOpIn
   simp only[ho]
   rcases h with⟨hg,⟨hm,_⟩|⟨_,hw⟩⟩|⟨_,hw,h⟩
   ·cases hm
   ·have EB:Region.wanted all[i] (yielded all a.tmps)=true:=hg.elim jN id
    simp only[EB,if_true]
    refine Oper.wpIn_mono (fun a' w' h'=>?_) hw
    cases p with
    | nil=>exact⟨.inr (by simpa[Pt.isNil]using k8),(ih fuel _ a' w' (hd.set rY) MH (fun h=>absurd rfl h) h'.2).1 tk⟩
    | st j q =>
     have Pa:S w':=by
      have:=h'.1
      simp only[eT]at this
      have hj:j<all.size:=by simp only[eO,Bool.true_and,Bool.and_eq_true,decide_eq_true_eq]at tk;exact tk.1.1.1
      have rf:all.toList[j]?=some all[j]:=by simp[hj]
      simp only[rf]at this
      exact this
     exact⟨.inl Pa,(ih fuel _ a' w' (hd.set rY) MH (fun _=>Pa) h'.2).1 tk⟩
    | act j q =>
     have Pa:S w':=by
      have:=h'.1
      simp only[eT]at this
      have hj:j<all.size:=by simp only[eO,Bool.and_eq_true,decide_eq_true_eq]at tk;exact tk.1.1.2
      have rf:all.toList[j]?=some all[j]:=by simp[hj]
      simp only[rf]at this
      exact this
     exact⟨.inl Pa,(ih fuel _ a' w' (hd.set rY) MH (fun _=>Pa) h'.2).1 tk⟩
    | fork l r =>
     have Pa:S w':=h'.1
     exact⟨.inl Pa,(ih fuel _ a' w' (hd.set rY) MH (fun _=>Pa) h'.2).1 tk⟩
   ·simp only[hw,Bool.false_eq_true,if_false]
    exact⟨fun _ _=>trivial,.inl Yf,(ih fuel _ _ w (hd.set rY) MH (fun _=>Yf) h).1 tk⟩
  constructor
  ·intro hp
   simp only[eO,Bool.and_eq_true,decide_eq_true_eq,Bool.not_true,Bool.false_or]at hp
   obtain⟨⟨⟨⟨fH,yH⟩,hi⟩,k8⟩,tk⟩:=hp
   have rY:i∈Region.ready .any all listed:=by simpa using yH
   refine⟨fun h0=>(by rw[h0]at rY;cases rY),fun j hj=>?_⟩
   have:j=i:=Nat.eq_of_beq_eq_true (List.all_eq_true.1 fH j hj)
   subst this
   exact key rY hi k8 tk
  ·intro hp j hj
   simp only[eO,Bool.and_eq_true,decide_eq_true_eq]at hp
   obtain⟨⟨⟨⟨_,yH⟩,hi⟩,k8⟩,tk⟩:=hp
   simp only[Pt.qn,List.mem_singleton]at hj
   subst hj
   exact⟨fuel,rfl,key (by simpa using yH) hi k8 tk⟩
 | fork l r ihl ihr =>
  intro fuel listed a w hd hf hS h
  simp only[Pt.depth]at hf hS
  simp only[eT,MC]at h
  have h1:=ihl fuel listed a w hd ag (fun h0=>hS ag) h.1
  have h2:=ihr fuel listed a w hd ag (fun h0=>hS ag) h.2
  have key:eO all false l listed=true→eO all false r listed=true→∀i∈l.qn++r.qn,∃g,fuel=g+1∧wpOpIn (fw ro) 0 P all Q i (fun a' w'=>(S w'∨oY all i=true)∧SK P ro all Q S g (listed.setIfInBounds i true) a' w') a w:=by
   intro hl hr i hi
   rcases List.mem_append.1 hi with hi|hi
   ·exact h1.2 hl i hi
   ·exact h2.2 hr i hi
  constructor
  ·intro hp
   simp only[eO,Bool.and_eq_true,Bool.not_true,Bool.false_or]at hp
   obtain⟨⟨fH,hl⟩,hr⟩:=hp
   have bY:∀ {q:Pt},eO all false q listed=true→∃i∈q.qn,i∈Region.ready .any all listed:=by
    intro q hq
    induction q with
    | nil=>simp[eO]at hq
    | st=>simp[eO]at hq
    | act i p=>simp only[eO,Bool.and_eq_true]at hq;exact⟨i,by simp[Pt.qn],by simpa using hq.1.1.1.2⟩
    | fork a b iha ihb =>
     simp only[eO,Bool.and_eq_true]at hq
     obtain⟨i,h1,h2⟩:=iha (by exact hq.1.2) 
     exact⟨i,by simp[Pt.qn,h1],h2⟩
   obtain⟨i0,Li,hr0⟩:=bY hl
   obtain⟨g,rfl,_⟩:=key hl hr i0 (List.mem_append_left _ Li)
   refine⟨fun h0=>(by rw[h0]at hr0;cases hr0),fun j hj=>?_⟩
   obtain⟨g',hg,hw⟩:=key hl hr j (by simpa using List.all_eq_true.1 fH j hj)
   cases hg
   exact hw
  ·intro hp
   simp only[eO,Bool.and_eq_true]at hp
   exact fun i hi=>key hp.1.2 hp.2 i hi
def Down.start(ops:Array Oper):Down ops (Array.replicate ops.size false):=by
 refine⟨by simp,fun i hi h=>?_⟩
 simp[hi]at h
def YN{id:Nat}{ops:Array Oper}(S:World→Prop)(er:Pt)(hm:P.follows .mixedOrders=true)(QB:Region.noSelect ops=true)(hp:(Eh ops && (Nat.ble er.depth ops.size && eO ops true er (Array.replicate ops.size false)))=true)(hS:∀w,Sat G w H→S w)(h:J P f n R G S ops (eT ops er) k L H):K P f n R G (.code (.region id ops true)::k) L H :=
 acr fun a w ha hw=>by
  simp only[Bool.and_eq_true]at hp
  have mO:Sat G { w with drawn:=w.drawn+1 } H:=hw.draw _
  exact wpIn_region_any hm (tm _ _ _ _ ((Gj (fun _ _ _ h=>h) QB hp.1 er ops.size _ a _ (Down.start ops) (Nat.le_of_ble_eq_true hp.2.1) (fun _=>hS _ mO) (h a _ ha mO (Sx.of (hS _ mO)))).1 hp.2.2))
inductive aek where
 | mk (k:List Item)
def iA:Nat→List Item→aek
 | 0,k => .mk k
 | i+1,k=>match k with
  | .code .skip::k'=>iA i k'
  | .code (.label _)::k'=>iA i k'
  | .inBlock _::k'=>iA i k'
  | .code (.seq a b)::k'=>iA i (.code a :: .code b::k')
  | .code (.block id b)::k'=>iA i (.code b :: .inBlock id::k')
  | .code (.exit id)::k'=>match exitTo id k' with
   | some k''=>iA i k''
   | none => .mk k
  | _ => .mk k
def gP(i:Nat):∀ {k k':List Item},iA i k = .mk k'→K P f n R G k' L H→K P f n R G k L H:=by
 induction i with
 | zero=>intro k k' h hk;simp only[iA]at h;cases h;exact hk
 | succ i ih =>
  intro k k' h hk
  simp only[iA]at h
  split at h
  ·exact qD (fun a cs w=>stepR_skip) (ih h hk)
  ·exact qD (fun a cs w=>stepR_label) (ih h hk)
  ·exact qD (fun a cs w=>stepR_inBlock) (ih h hk)
  ·exact qD (fun a cs w=>stepR_seq) (ih h hk)
  ·exact qD (fun a cs w=>stepR_block) (ih h hk)
  ·split at h
   ·rename_i hx;exact qD (fun a cs w=>stepR_exit hx) (ih h hk)
   ·cases h;exact hk
  ·cases h;exact hk
def C3{c:Operand}{t e:Code}{b:Bool}(hc:ev L c=some (.bool b))(ht:b=true→K P f n R G (.code t::k) L H)(he:b=false→K P f n R G (.code e::k) L H) :
  K P f n R G (.code (.cond c t e)::k) L H:=by
 intro a w ha hw cs
 have hs:=stepR_cond (P:=P) (b:=({ (default:Frame)with fn:=f,kind := .normal,roundOf:=G.ro }:Frame)) (k:=k) (cs:=cs) (w:=w) (x:=t) (y:=e) (ha.ev hc)
 cases b with
 | true=>exact(ht rfl a w ha hw cs).of_steps (.one hs)
 | false=>exact(he rfl a w ha hw cs).of_steps (.one hs)
def aD{k0:List Item}{id:Nat}{ops:Array Oper}(hk:iA 1000 k0 = .mk (.code (.region id ops false)::k))(h:J P f n R G (fun _=>True) ops (items ops.toList) k L H):K P f n R G k0 L H :=
 gP 1000 hk (P3 h)
def aF{k0:List Item}{id:Nat}{ops:Array Oper}(S:World→Prop)(er:Pt)(hk:iA 1000 k0 = .mk (.code (.region id ops true)::k))(hm:P.follows .mixedOrders=true)(QB:Region.noSelect ops=true)(hp:(Eh ops && (Nat.ble er.depth ops.size && eO ops true er (Array.replicate ops.size false)))=true)(hS:∀w,Sat G w H→S w)(h:J P f n R G S ops (eT ops er) k L H):K P f n R G k0 L H:=gP 1000 hk (YN S er hm QB hp hS h)
def fR{k0:List Item}{c:Operand}{t e:Code}{b:Bool}(hk:iA 1000 k0 = .mk (.code (.cond c t e)::k))(hc:ev L c=some (.bool b))(ht:b=true→K P f n R G (.code t::k) L H)(he:b=false→K P f n R G (.code e::k) L H):K P f n R G k0 L H:=gP 1000 hk (C3 hc ht he)
def px{k0:List Item}{c:Operand}{t e:Code}(hk:iA 1000 k0 = .mk (.code (.cond c t e)::k))(hc:ev L c=some (.bool true))(h:K P f n R G (.code t::k) L H):K P f n R G k0 L H:=gP 1000 hk (C3 hc (fun _=>h) (fun h=>by cases h))
def ix{k0:List Item}{c:Operand}{t e:Code}(hk:iA 1000 k0 = .mk (.code (.cond c t e)::k))(hc:ev L c=some (.bool false))(h:K P f n R G (.code e::k) L H):K P f n R G k0 L H:=gP 1000 hk (C3 hc (fun h=>by cases h) (fun _=>h))
def aq{k0:List Item}{c:Operand}{t e:Code}{p:Prop}[Decidable p](hk:iA 1000 k0 = .mk (.code (.cond c t e)::k))(hc:ev L c=some (.bool (decide p)))(ht:p→K P f n R G (.code t::k) L H)(he:¬p→K P f n R G (.code e::k) L H):K P f n R G k0 L H :=
 gP 1000 hk (C3 hc (fun h=>ht (of_decide_eq_true h)) (fun h=>he (of_decide_eq_false h)))
def bB{α:Type}{k0:List Item}{c:Code}(I:α→Prop)(μ:α→Nat)(Lf:α→fJ)(Hf:α→List HP)(x0:α)(h0:I x0)(hk:iA 1000 k0 = .mk (.code (.loop c)::k))(hL:∀t v,ej (Lf x0) t=some v→ej L t=some v)(hH:al H (Hf x0))(round:∀x,I x→(∀y,I y→μ y < μ x→K P f n R G (.inLoop c::k) (Lf y) (Hf y))→K P f n R G (.code c :: .inLoop c::k) (Lf x) (Hf x)):K P f n R G k0 L H:=by
 have key:∀m x,I x→μ x=m→K P f n R G (.code c :: .inLoop c::k) (Lf x) (Hf x):=by
  intro m
  induction m using Nat.strongRecOn with
  | _ m ih =>
   intro x hI hx
   refine round x hI fun y hy de=>qD (fun a cs w=>stepR_inLoop) (ih (μ y) (hx ▸ de) y hy rfl)
 exact gP 1000 hk (qD (fun a cs w=>stepR_loop) (JP hL (ai hH (key _ x0 h0 rfl))))
def aM{α:Type}{I:α→Prop}{c:Code}{k0:List Item}{Lf:α→fJ}{Hf:α→List HP}{q:α→Prop}(ih:∀y,I y→q y→K P f n R G (.inLoop c::k) (Lf y) (Hf y))(y:α)(hk:iA 1000 k0 = .mk (.inLoop c::k))(hI:I y)(hq:q y)(hL:∀t v,ej (Lf y) t=some v→ej L t=some v)(hH:al H (Hf y)):K P f n R G k0 L H :=
 gP 1000 hk (JP hL (ai hH (ih y hI hq)))
def ye(L:fJ):List ResultVar→List Value→L8
 | [],acc=>Cy acc []
 | .tmp t::xs,acc=>match ej L t with
  | some v=>ye L xs (v::acc)
  | none => .no
 | .cell _ _::_,_ => .no
def eC:List Value→Value
 | [v]=>v
 | vs => .tuple vs.toArray
def B3(tmps:Array Value):ResultVar→Sem Value
 | .tmp t=>pure (tmps.getD t undef)
 | .cell a t=>do loadVar t (← asAddr (tmps.getD a undef))
def oP(fn:Func)(tmps:Array Value):results fn tmps=(fn.results.mapM (B3 tmps) >>= fun vs=>pure (if h:vs.size=1 then vs[0]else .tuple vs)):=by
 unfold results
 congr 1
def Nt{a:Act}(ha:Has n L a)(xs:List ResultVar)(acc vs:List Value)(h:ye L xs acc = .mk vs)(w:World) :
  ∃us,vs=acc.reverse++us∧(xs.mapM (m:=Sem) (B3 a.tmps)).run P w = .ok us w:=by
 induction xs generalizing acc with
 | nil=>have:=rp _ _ _ h;exact⟨[],by simpa using this,rfl⟩
 | cons x xs ih =>
  cases x with
  | cell p t=>cases h
  | tmp t =>
   simp only[ye]at h
   split at h
   ·rename_i v hv
    obtain⟨us,Ad,jy⟩:=ih _ h
    refine⟨v::us,by rw[Ad];simp,?_⟩
    have hg:a.tmps.getD t undef=v:=by simp[Array.getD_eq_getD_getElem?,ha.2.2 t v hv]
    simp only[List.mapM_cons,B3,Sem.run_bind,Sem.run_pure,hg,Result.andThen_ok,jy]
   ·cases h
def vK{a:Act}{fn:Func}(ha:Has n L a)(vs:List Value)(h:ye L fn.results.toList [] = .mk vs)(w:World):(results fn a.tmps).run P w = .ok (eC vs) w:=by
 obtain⟨us,Ad,jy⟩:=Nt (P:=P) ha fn.results.toList [] vs h w
 simp only[List.reverse_nil,List.nil_append]at Ad
 subst Ad
 rw[oP,Array.mapM_eq_mapM_toList]
 simp only[Sem.run_bind,Sem.run_map,jy,Result.andThen_ok,Sem.run_pure]
 congr 1
 match vs with
 | []=>rfl
 | [v]=>rfl
 | v::u::vs=>simp[eC]
def qh(ds:List Nat):∀(fr:Frame) (cs:List Frame) (w:World),fr.mode = .returning→fr.defers=ds.map mark→(∃F,Sat G w (ds.map (fun r=>ae r (.deferred (some [])))++F)∧F=H) →
  ∃w',Sat G w' H∧Steps P (lone fr cs w) (lone { fr with defers:=[] } cs w'):=by
 induction ds with
 | nil =>
  rintro fr cs w hm hd⟨F,hw,rfl⟩
  refine⟨w,hw,?_⟩
  have:({ fr with defers:=[] }:Frame)=fr:=by simp only[List.map_nil]at hd;rw[← hd]
  rw[this];exact .refl P _
 | cons r ds ih =>
  rintro fr cs w hm hd⟨F,hw,rfl⟩
  have hg:w.heap[r]?=some (.deferred (some [])):=hw.get (i:=0) rfl
  have hk:(Instr.takeDeferred r).run P w = .ok [] { w with heap:=w.heap.setIfInBounds r (.deferred none) }:=by
   have h1:(getObj r).run P w = .ok (.deferred (some [])) w:=by simp[getObj,Sem.run,hg]
   have h2:(setObj r (.deferred none)).run P w = .ok () { w with heap:=w.heap.setIfInBounds r (.deferred none) }:=by simp[setObj,Sem.run,hg]
   simp[Instr.takeDeferred,Sem.run_bind,h1,h2,Result.andThen]
  have hs:=step_collected (P:=P) (cs:=cs) (fr:=fr) (by rw[hm];simp) hd rfl hk
  have mO:Sat G { w with heap:=w.heap.setIfInBounds r (.deferred none) } (ds.map (fun r=>ae r (.deferred (some [])))++F):=hw.BW.cV (al.drop _ _)
  obtain⟨w',h1,h2⟩:=ih { fr with defers:=[]++ds.map mark } cs _ hm rfl ⟨F,mO,rfl⟩
  exact⟨w',h1,(Steps.trans (.one hs) h2)⟩
def TL{fn:Func}(OE:G.ro=none)(hf:P.funcs[f]?=some fn)(vs:List Value)(hr:ye L fn.results.toList [] = .mk vs){H':List HP}(he:al H (G.ds.map (fun r=>ae r (.deferred (some [])))++H'))(h:∀w,Sat G w H'→R (.returned (eC vs)) w):K P f n R G (.code .ret::k) L H:=by
 intro a w ha hw cs
 rw[OE]
 obtain⟨w',mO,hs⟩:=qh (P:=P) G.ds { bf none f a (.code .ret::k)with mode := .returning } cs w rfl ha.2 ⟨H',hw.cV he,rfl⟩
 exact⟨_,w',_,h w' mO,Steps.trans (.one (stepR_ret rfl)) hs,rfl,rfl,rfl,rfl,fn,hf,vK ha.1 vs hr w'⟩
def P4{fn:Func}(OE:G.ro=none)(hf:P.funcs[f]?=some fn)(vs:List Value)(hr:ye L fn.results.toList [] = .mk vs){H':List HP}(he:al H (G.ds.map (fun r=>ae r (.deferred (some [])))++H'))(h:∀w,Sat G w H'→R (.returned (eC vs)) w):K P f n R G [] L H:=by
 intro a w ha hw cs
 rw[OE]
 obtain⟨w',mO,hs⟩:=qh (P:=P) G.ds { bf none f a []with mode := .returning } cs w rfl ha.2 ⟨H',hw.cV he,rfl⟩
 exact⟨_,w',_,h w' mO,Steps.trans (.one (stepR_end rfl)) hs,rfl,rfl,rfl,rfl,fn,hf,vK ha.1 vs hr w'⟩
end
def mz(fn:Func):Bool:=fn.body.isSome && !(fn.name == "runtime.NumGoroutine")
def aE(P:Program)(f:FuncId)(args:List Value)(Pre:List HP)(Post:Value→List HP→Prop):Prop :=
 (P.funcs[f]?.map mz=some true) ∧
 ∀G w F,Sat G w (Pre++F)→Calls P f args.toArray w fun e w'=>∃v H,e = .returned v∧Post v H∧Sat G w' (H++F)
def Ends(R:Ending→World→Prop)(G:cJ)(F:List HP)(Post:Value→List HP→Prop):Prop :=
 (G.ro=none∧G.ds=[])∧∀v H w,Post v H→Sat G w (H++F)→R (.returned v) w
inductive aej where
 | mk (L:fJ)
def NR:Nat→List Value→fJ→aej
 | _,[],L => .mk L
 | i,v::vs,L=>NR (i+1) vs ((i,v)::L)
def Lx(vs:List Value):∀(i:Nat) (L0 L:fJ),NR i vs L0 = .mk L→∀t v,ej L t=some v→(i≤t∧vs[t-i]?=some v)∨ej L0 t=some v:=by
 induction vs with
 | nil=>intro i L0 L h t v hv;simp only[NR]at h;cases h;exact .inr hv
 | cons u vs ih =>
  intro i L0 L h t v hv
  rcases ih (i+1) _ L h t v hv with⟨h1,h2⟩|h2
  ·left
   refine⟨ag,?_⟩
   rw[show t-i=(t-(i+1))+1 by omega]
   simpa using h2
  ·simp only[ej]at h2
   cases hb:Nat.beq i t with
   | true =>
    have:=Nat.eq_of_beq_eq_true hb
    subst this
    simp only[hb,cond_true]at h2
    cases h2
    exact .inl ⟨Nat.le_refl _,by simp⟩
   | false =>
    simp only[hb,cond_false]at h2
    exact .inr h2
def aE.enter{P:Program}{f:FuncId}{fn:Func}{c:Code}{n:Nat}{args:List Value}{L:fJ}{Pre:List HP}{Post:Value→List HP→Prop}(hf:P.funcs[f]?=some fn)(hc:mz fn=true)(hb:fn.body=some c)(hn:fn.ntmps=n)(hp:NR 0 args [] = .mk L)(hlen:Nat.ble args.length n=true)(h:∀G F R,Ends R G F Post→K P f n R G [.code c] L (Pre++F)):aE P f args Pre Post:=by
 refine⟨by rw[hf];simp[hc],fun G w F hw cs=>?_⟩
 have aem:=Nat.le_of_ble_eq_true hlen
 have hk:=h { G with ro:=none,ds:=[] } F (fun e w'=>∃v H,e = .returned v∧Post v H∧Sat G w' (H++F)) ⟨⟨rfl,rfl⟩,fun v H w' hp hs=>⟨v,H,rfl,hp,hs⟩⟩
 have ha:Has n L { tmps:=args.toArray++Array.replicate (n-args.toArray.size) undef,defers:=[] }:=by
  refine⟨by simp;omega,trivial,fun t v hv=>?_⟩
  rcases Lx args 0 [] L hp t v hv with⟨_,h2⟩|h2
  ·simp only[Nat.sub_zero]at h2
   have de:t<args.length:=by
    rcases Nat.lt_or_ge t args.length with h|h
    ·exact h
    ·rw[List.getElem?_eq_none h]at h2;cases h2
   rw[Array.getElem?_append_left (by simpa using de)]
   simpa using h2
  ·cases h2
 have Hv:Frame.enter P f args.toArray .normal=bf none f { tmps:=args.toArray++Array.replicate (n-args.toArray.size) undef,defers:=[] } [.code c]:=by
  simp[Frame.enter,Frame.atR,bf,hf,hb,hn]
 rw[Hv]
 exact hk _ w ⟨ha,rfl⟩ hw cs
def aL{P:Program}{f:FuncId}{n:Nat}{R:Ending→World→Prop}{G:cJ}{k k0:List Item}{L:fJ}{H:List HP}{fn:Func}{F:List HP}{Post:Value→List HP→Prop}(hR:Ends R G F Post)(hf:P.funcs[f]?=some fn)(hk:iA 1000 k0 = .mk (.code .ret::k))(vs:List Value)(hr:ye L fn.results.toList [] = .mk vs){Hq:List HP}(hp:Post (eC vs) Hq)(he:al H (Hq++F)):K P f n R G k0 L H :=
 gP 1000 hk (TL hR.1.1 hf vs hr (by rw[hR.1.2];exact he) fun w hw=>hR.2 _ _ w hp hw)
def bW{P:Program}{f:FuncId}{n:Nat}{R:Ending→World→Prop}{G:cJ}{k0:List Item}{L:fJ}{H:List HP}{fn:Func}{F:List HP}{Post:Value→List HP→Prop}(hR:Ends R G F Post)(hf:P.funcs[f]?=some fn)(hk:iA 1000 k0 = .mk [])(vs:List Value)(hr:ye L fn.results.toList [] = .mk vs){Hq:List HP}(hp:Post (eC vs) Hq)(he:al H (Hq++F)):K P f n R G k0 L H :=
 gP 1000 hk (P4 hR.1.1 hf vs hr (by rw[hR.1.2];exact he) fun w hw=>hR.2 _ _ w hp hw)
def rz{P:Program}{f:FuncId}{n:Nat}{R:Ending→World→Prop}{G:cJ}{ds:List Nat}{k k0:List Item}{L:fJ}{H:List HP}{fn:Func}{F:List HP}{Post:Value→List HP→Prop}(hR:Ends R G F Post)(hf:P.funcs[f]?=some fn)(hk:iA 1000 k0 = .mk (.code .ret::k))(vs:List Value)(hr:ye L fn.results.toList [] = .mk vs){Hq:List HP}(hp:Post (eC vs) Hq)(he:al H (ds.map (fun r=>ae r (.deferred (some [])))++(Hq++F))):K P f n R { G with ds:=ds } k0 L H :=
 gP 1000 hk (TL hR.1.1 hf vs hr he fun w hw=>hR.2 _ _ w hp hw)
def Il{P:Program}{f:FuncId}{n:Nat}{R:Ending→World→Prop}{G:cJ}{ds:List Nat}{k0:List Item}{L:fJ}{H:List HP}{fn:Func}{F:List HP}{Post:Value→List HP→Prop}(hR:Ends R G F Post)(hf:P.funcs[f]?=some fn)(hk:iA 1000 k0 = .mk [])(vs:List Value)(hr:ye L fn.results.toList [] = .mk vs){Hq:List HP}(hp:Post (eC vs) Hq)(he:al H (ds.map (fun r=>ae r (.deferred (some [])))++(Hq++F))):K P f n R { G with ds:=ds } k0 L H :=
 gP 1000 hk (P4 hR.1.1 hf vs hr he fun w hw=>hR.2 _ _ w hp hw)
def al.fin{H pre rest F:List HP}(is:List Nat)(m:Nat)(h:tG is [] H [] = .mk pre rest)(hd:rest.drop m=F):al H (pre++F):=by
 refine(al.pick is h).trans ?_
 have mj:∀(m:Nat) (l:List HP),al l (l.drop m):=by
  intro m
  induction m with
  | zero=>exact fun l=>al.refl _
  | succ m ih =>
   intro l
   cases l with
   | nil=>exact al.refl _
   | cons A l=>exact(al.drop A l).trans (ih l)
 subst hd
 intro h hs
 have:=mE hs
 obtain⟨h',s,Rz⟩:=pW (mj m rest) this
 exact⟨h',s,jK Rz⟩
def cZ:Nat→Nat→Pt→Pt
 | _,0,p=>p
 | a,n+1,p => .st a (cZ (a+1) n p)
end Go.SL
namespace Go.SL
structure Ty where
 gA:TypeDesc
 info:TypeInfo
inductive Tr where
 | leaf
 | node (k:Nat) (v:Ty) (l r:Tr)
def Tr.get:Tr→Nat→Option Ty
 | .leaf,_=>none
 | .node k v l r,t=>bif Nat.beq t k then some v else bif Nat.blt t k then l.get t else r.get t
def Tr.Good(P:Program):Tr→Prop
 | .leaf=>True
 | .node k v l r=>(P.underlying k=some v.gA∧P.info? k=some v.info)∧l.Good P∧r.Good P
class fX (P:Program) (U:outParam Tr):Prop where
 vf:U.Good P
def Tr.E7{P:Program}{U:Tr}(h:U.Good P)(t:Nat)(ty:Ty)(hg:U.get t=some ty):P.underlying t=some ty.gA∧P.info? t=some ty.info:=by
 induction U with
 | leaf=>simp[Tr.get]at hg
 | node k v l r ihl ihr =>
  simp only[Tr.get]at hg
  cases hb:Nat.beq t k with
  | true =>
   have:=Nat.eq_of_beq_eq_true hb
   subst this
   simp only[hb,cond_true]at hg
   cases hg
   exact h.1
  | false =>
   simp only[hb,cond_false]at hg
   cases hl:Nat.blt t k with
   | true=>simp only[hl,cond_true]at hg;exact ihl h.2.1 hg
   | false=>simp only[hl,cond_false]at hg;exact ihr h.2.2 hg
section
variable{P:Program}{U:Tr}[hU:fX P U]
def fD{t:Nat}{ty:Ty}(h:U.get t=some ty):P.underlying t=some ty.gA:=(Tr.E7 hU.vf t ty h).1
def Rp{t:Nat}{ty:Ty}(h:U.get t=some ty):P.info? t=some ty.info:=(Tr.E7 hU.vf t ty h).2
def run_underlying{t:Nat}{ty:Ty}(h:U.get t=some ty)(w:World):(underlying t).run P w = .ok ty.gA w:=by
 simp[underlying,fD (P:=P) h]
def run_typeInfo{t:Nat}{ty:Ty}(h:U.get t=some ty)(w:World):(typeInfo t).run P w = .ok ty.info w:=by
 simp[typeInfo,Rp (P:=P) h]
def run_sizeOf{t:Nat}{ty:Ty}(h:U.get t=some ty)(w:World):(sizeOf t).run P w = .ok ty.info.size w:=by
 simp[sizeOf,run_typeInfo h]
def Ty.isAgg(ty:Ty):Bool:=match ty.gA with
 | .struct _=>true
 | .array _ _=>true
 | _=>false
def qQ{t:Nat}{ty:Ty}(h:U.get t=some ty)(w:World):(isAgg t).run P w = .ok ty.isAgg w:=by
 simp only[isAgg,Sem.run_bind,run_underlying h,Result.andThen_ok,Ty.isAgg]
 cases ty.gA <;> rfl
def dU{t:Nat}{ty:Ty}{z:Value}(h:U.get t=some ty)(hz:ty.info.zero=some z)(w:World):(zeroValue t).run P w = .ok z w:=by
 simp[zeroValue,run_typeInfo h,hz]
end
def cE{α:Type}:List α→Nat→Option α
 | [],_=>none
 | x::_,0=>some x
 | _::l,i+1=>cE l i
def dM{α:Type}(l:List α)(i:Nat):cE l i=l[i]? := by
 induction l generalizing i with
 | nil=>simp[cE]
 | cons x l ih=>cases i <;> simp[cE,ih]
def SR:IntKind→Nat
 | .i8=>0 | .i16=>1 | .i32=>2 | .i64=>3 | .u8=>4 | .u16=>5 | .u32=>6 | .u64=>7
def Rn{j k:IntKind}(h:Nat.beq (SR j) (SR k)=true):j=k:=by
 cases j <;> cases k <;> first|rfl|(revert h;decide)
def TF(a b:ByteArray):Bool:=a.data.toList == b.data.toList
def ltS(a b:ByteArray):Bool:=Op.bytesLess a.data.toList b.data.toList
def ace:BinOp→Int→Int→Option Bool
 | .eql,a,b=>some (decide (a=b))
 | .neq,a,b=>some (decide (a≠b))
 | .lss,a,b=>some (decide (a<b))
 | .leq,a,b=>some (decide (a≤b))
 | .gtr,a,b=>some (decide (b<a))
 | .geq,a,b=>some (decide (b≤a))
 | _,_,_=>none
def acd:BinOp→ByteArray→ByteArray→Option Bool
 | .eql,a,b=>some (TF a b)
 | .neq,a,b=>some (!(TF a b))
 | .lss,a,b=>some (ltS a b)
 | .leq,a,b=>some (ltS a b || TF a b)
 | .gtr,a,b=>some (!(ltS a b || TF a b))
 | .geq,a,b=>some (!(ltS a b))
 | _,_,_=>none
def Px:BinOp→IntKind→Int→Int→Option Int
 | .and,k,a,b=>some (k.wrap ((BitVec.ofInt k.bits a &&& BitVec.ofInt k.bits b).toNat:Int))
 | .or,k,a,b=>some (k.wrap ((BitVec.ofInt k.bits a ||| BitVec.ofInt k.bits b).toNat:Int))
 | .xor,k,a,b=>some (k.wrap ((BitVec.ofInt k.bits a ^^^ BitVec.ofInt k.bits b).toNat:Int))
 | .andNot,k,a,b=>some (k.wrap ((BitVec.ofInt k.bits a &&& ~~~ BitVec.ofInt k.bits b).toNat:Int))
 | _,_,_,_=>none
def TJ(op:BinOp)(k:IntKind)(a b:Int):Option Int:=bif Nat.beq (SR k) 6 then none else Px op k a b
def Bs:TypeDesc→Value→Value→Option Bool
 | .pointer _,.pointer none,.pointer none=>some true
 | .pointer _,.pointer none,.pointer (some _)=>some false
 | .pointer _,.pointer (some _),.pointer none=>some false
 | .slice _,.slice none _ _,.slice none _ _=>some true
 | .slice _,.slice (some _) _ _,.slice none _ _=>some false
 | .slice _,.slice none _ _,.slice (some _) _ _=>some false
 | .map _ _,.map none,.map none=>some true
 | .map _ _,.map (some _),.map none=>some false
 | .map _ _,.map none,.map (some _)=>some false
 | .func _ _ _,.nilFunc,.nilFunc=>some true
 | .func _ _ _,.func _ _ _,.nilFunc=>some false
 | .func _ _ _,.nilFunc,.func _ _ _=>some false
 | .bool,.bool a,.bool b=>some (a == b)
 | _,_,_=>none
def eqV(U:Tr)(op:BinOp)(t:TypeId)(x y:Value):Option Bool :=
 match op with
 | .eql=>match U.get t with
  | some ty=>Bs ty.gA x y
  | none=>none
 | .neq=>match U.get t with
  | some ty=>match Bs ty.gA x y with
   | some b=>some (!b)
   | none=>none
  | none=>none
 | _=>none
def bp:Value→List Value
 | .agg cs=>cs.toList
 | v=>[v]
def dQ(v:Value):v.cells=(bp v).toArray:=by cases v <;> simp[Value.cells,bp]
def nk:List Value→Nat→List Value→List Value→L8
 | acc,_,z,[]=>Cy acc z
 | acc,0,_::z,v::vs=>nk (v::acc) 0 z vs
 | acc,i+1,x::z,v::vs=>nk (x::acc) i z (v::vs)
 | _,_,[],_::_ => .no
def IM(vs:List Value):∀(acc:List Value) (i:Nat) (z r:List Value),nk acc i z vs = .mk r→i+vs.length≤z.length+(if vs=[]then i else 0)∧(vs≠[]→r=acc.reverse++(z.take i++vs++z.drop (i+vs.length)))∧(vs=[]→r=acc.reverse++z):=by
 have gen:∀(z vs acc:List Value) (i:Nat) (r:List Value),nk acc i z vs = .mk r→i+vs.length≤z.length+(if vs=[]then i else 0)∧(vs≠[]→r=acc.reverse++(z.take i++vs++z.drop (i+vs.length)))∧(vs=[]→r=acc.reverse++z):=by
  intro z
  induction z with
  | nil =>
   intro vs acc i r h
   cases vs with
   | nil=>cases i <;> (simp only[nk]at h;have:=rp _ _ _ h;simp[this])
   | cons v vs=>cases i <;> simp[nk]at h
  | cons x z ih =>
   intro vs acc i r h
   cases vs with
   | nil=>cases i <;> (simp only[nk]at h;have:=rp _ _ _ h;simp[this])
   | cons v vs =>
    cases i with
    | zero =>
     simp only[nk]at h
     obtain⟨h1,h2,h3⟩:=ih vs (v::acc) 0 r h
     by_cases hv:vs=[]
     ·subst hv;have:=h3 rfl;simp[this]
     ·have:=h2 hv;simp[hv]at h1;simp[this];omega
    | succ i =>
     simp only[nk]at h
     obtain⟨h1,h2,h3⟩:=ih (v::vs) (x::acc) i r h
     have:=h2 (by simp)
     simp at h1
     refine⟨by simp;omega,fun _=>?_,fun h=>by cases h⟩
     rw[this];simp[show i+1+(vs.length+1)=(i+(vs.length+1))+1 by omega]
 exact fun acc i z r h=>gen z vs acc i r h
def zp(U:Tr)(L:fJ)(fs:List Field):List Value→List (Nat × Operand)→Option Value
 | z,[]=>some (.agg z.toArray)
 | z,(i,x)::ps=>match cE fs i,ev L x with
  | some fd,some v=>match U.get fd.type with
   | some ft=>bif Nat.beq (bp v).length 0 then none else bif Nat.beq (bp v).length ft.info.size then
     (match nk [] fd.offset z (bp v)with
     | .mk z'=>zp U L fs z' ps
     | .no=>none)else none
   | none=>none
  | _,_=>none
def Fw(U:Tr):List Field→Bool
 | []=>true
 | f::fs=>match U.get f.type with
  | some _=>Fw U fs
  | none=>false
def jv(U:Tr)(op:Op)(L:fJ):Option Value :=
 match op with
 | .move x=>ev L x
 | .assign x=>ev L x
 | .nilCheck x=>match ev L x with
  | some (.pointer (some a))=>some (.pointer (some a))
  | some (.func (.func f) fi cap)=>some (.func (.func f) fi cap)
  | _=>none
 | .fieldAddr s x f=>match U.get s,ev L x with
  | some ty,some (.pointer (some ⟨b,o,none⟩))=>match ty.gA with
   | .struct fs=>match cE fs.toList f with
    | some fd=>match U.get fd.type with
     | some ft=>bif Nat.beq ft.info.size 0 then none else some (.pointer (some ⟨b,o+fd.offset,none⟩))
     | none=>none
    | none=>none
   | _=>none
  | _,_=>none
 | .field s x f=>match U.get s,ev L x with
  | some ty,some (.agg cs)=>match ty.gA with
   | .struct fs=>match cE fs.toList f with
    | some fd=>match U.get fd.type with
     | some ft=>bif ft.isAgg then some (.agg (cs.extract fd.offset (fd.offset+ft.info.size)))else cE cs.toList fd.offset
     | none=>none
    | none=>none
   | _=>none
  | _,_=>none
 | .extract x i=>match ev L x with
  | some (.tuple vs)=>cE vs.toList i
  | _=>none
 | .binOp op t x y _=>match ev L x,ev L y with
  | some (.int j a),some (.int k b)=>bif Nat.beq (SR j) (SR k)then
    (match ace op a b with
    | some c=>some (.bool c)
    | none=>match TJ op j a b with
     | some c=>some (.int j c)
     | none=>none)else none
  | some (.string a),some (.string b)=>match acd op a b with
   | some c=>some (.bool c)
   | none=>none
  | some u,some v=>match eqV U op t u v with
   | some c=>some (.bool c)
   | none=>none
  | _,_=>none
 | .unOp op _ x=>match op,ev L x with
  | .not,some (.bool b)=>some (.bool (!b))
  | _,_=>none
 | .makeFunc fn first captured=>match Gg L first.toList [],Gg L captured.toList []with
  | .mk fs,.mk cs=>some (.func fn fs.toArray cs.toArray)
  | _,_=>none
 | .build t parts=>match U.get t with
  | some ty=>match ty.gA,ty.info.zero with
   | .struct fs,some (.agg z)=>bif Fw U fs.toList then zp U L fs.toList z.toList parts.toList else none
   | _,_=>none
  | none=>none
 | .convert src dst x=>match U.get src,U.get dst,ev L x with
  | some s,some d,some (.string v)=>match s.gA,d.gA with
   | .string,.string=>some (.string v)
   | _,_=>none
  | _,_,_=>none
 | .call c=>match c.callee with
  | .builtin .len=>match c.argTypes.toList,c.args.toList with
   | [t],[x]=>match U.get t,ev L x with
    | some ty,some (.slice _ n _)=>match ty.gA with
     | .slice _=>some (.int .i64 n)
     | _=>none
    | some ty,some (.string s)=>match ty.gA with
     | .string=>some (.int .i64 s.size)
     | _=>none
    | _,_=>none
   | _,_=>none
  | .builtin .max=>match c.args.toList with
   | [x,y]=>match ev L x,ev L y with
    | some (.int k a),some (.int _ b)=>some (.int k (max a b))
    | _,_=>none
   | _=>none
  | .builtin .min=>match c.args.toList with
   | [x,y]=>match ev L x,ev L y with
    | some (.int k a),some (.int _ b)=>some (.int k (min a b))
    | _,_=>none
   | _=>none
  | _=>none
 | _=>none
section
variable{P:Program}{U:Tr}[hU:fX P U]{n:Nat}{L:fJ}{a:Act}
def tz{d:Nat}{t:TypeId}{ty:Ty}{x y:Value}{b:Bool}(h:U.get t=some ty)(he:Bs ty.gA x y=some b)(w:World) :
  (Op.equalIn (d+1) t x y).run P w = .ok b w:=by
 unfold Op.equalIn
 simp only[Sem.run_bind,run_underlying h,Result.andThen_ok]
 unfold Bs at he
 split at he <;> first|(cases he;done)|skip
 all_goals(cases he;rename_i hu _ _;first|rw[hu]|skip)
 all_goals simp_all
def Sd{a b:ByteArray}:TF a b=true↔a=b:=by
 unfold TF
 constructor
 ·intro h
  have h1:a.data.toList=b.data.toList:=by simpa using h
  cases a;cases b;simp at h1;rw[h1]
 ·rintro rfl;simp
def acj(p q:Int):(p == q)=decide (p=q):=by rw[Bool.eq_iff_iff];simp
def Cc{op:BinOp}{t yt:TypeId}{x y:Operand}{v:Value}{d:Option Tmp}{ty:TypeId}{pos:String}{af:Array Edge}{gd:Option (Nat × Bool)}(h:jv U (.binOp op t x y yt) L=some v)(ha:Has n L a)(w:World):(execOp a.eval ⟨d,.binOp op t x y yt,ty,pos,af,gd⟩).run P w = .ok (.value v) w:=by
 simp only[jv]at h
 split at h
 ·rename_i j p k q hx hy
  have ex:=ha.ev hx
  have ey:=ha.ev hy
  have hg:(eqGuard op t x y (.int j p) (.int k q)).run P w = .ok () w:=by
   unfold eqGuard;split <;> simp
  cases hk:Nat.beq (SR j) (SR k)with
  | false=>simp[hk]at h
  | true =>
   have:=Rn hk
   subst this
   simp only[hk,cond_true]at h
   simp only[execOp,Sem.run_bind,ex,ey,hg,Result.andThen_ok]
   cases h6:Nat.beq (SR j) 6 <;> cases op <;> simp only[ace,TJ,Px,h6,cond_true,cond_false]at h <;> cases h <;>
    simp[binOp,Op.intCmp,Op.intBits,bne,acj]
 ·rename_i s1 s2 hx hy
  have ex:=ha.ev hx
  have ey:=ha.ev hy
  have hg:(eqGuard op t x y (.string s1) (.string s2)).run P w = .ok () w:=by
   unfold eqGuard;split <;> simp
  simp only[execOp,Sem.run_bind,ex,ey,hg,Result.andThen_ok]
  cases op <;> simp only[acd]at h <;> cases h <;>
   simp[binOp,Op.stringOp,TF,ltS,ByteArray.toList_eq]
 ·rename_i u v' hni QB hx hy
  have ex:=ha.ev hx
  have ey:=ha.ev hy
  split at h
  ·rename_i c hc
   cases h
   simp only[execOp,Sem.run_bind,ex,ey]
   unfold eqV at hc
   split at hc
   ·split at hc
    ·rename_i bR ht
     have hr:=tz (P:=P) (d:=9999) ht hc w
     unfold Bs at hc
     split at hc <;> first|(cases hc;done)|(simp[eqGuard,binOp,Op.equal,Op.maxDepth,hr];done)
    ·cases hc
   ·split at hc
    ·rename_i bR ht
     split at hc
     ·rename_i b hb
      have hr:=tz (P:=P) (d:=9999) ht hb w
      cases hc
      unfold Bs at hb
      split at hb <;> first|(cases hb;done)|(simp[eqGuard,binOp,Op.equal,Op.maxDepth,hr];done)
     ·cases hc
    ·cases hc
   ·cases hc
  ·cases h
 ·cases h
def Bp(vc:List Value):∀(i off:Nat) (cs:Array Value),off+i+vc.length≤cs.size →
  ((vc.toArray.zipIdx i).foldl (fun cs (x:Value × Nat)=>cs.setIfInBounds (off+x.2) x.1) cs).toList=cs.toList.take (off+i)++vc++cs.toList.drop (off+i+vc.length):=by
 induction vc with
 | nil =>
  intro i off cs _
  have:(([]:List Value).toArray.zipIdx i) = #[]:=by apply Array.ext';simp
  rw[this];simp
 | cons v vc ih =>
  intro i off cs h
  have h1:((v::vc).toArray.zipIdx i) = #[(v,i)]++vc.toArray.zipIdx (i+1):=by
   apply Array.ext';simp
  simp only[List.length_cons]at h
  rw[h1,Array.foldl_append]
  simp only[List.foldl_toArray,List.foldl_cons,List.foldl_nil]
  rw[ih (i+1) off _ (by simp;omega)]
  have h2:(cs.setIfInBounds (off+i) v).toList=cs.toList.set (off+i) v:=by simp
  rw[h2]
  have de:off+i<cs.toList.length:=by simp;omega
  rw[List.set_eq_take_append_cons_drop,if_pos de]
  rw[show off+(i+1)=off+i+1 by omega]
  have e1:(List.take (off+i) cs.toList++v::List.drop (off+i+1) cs.toList).take (off+i+1)=List.take (off+i) cs.toList++[v]:=by
   rw[List.take_append]
   simp only[List.length_take]
   rw[show min (off+i) cs.toList.length=off+i by omega]
   simp[List.take_take,show off+i+1-(off+i)=1 by omega]
  have e2:(List.take (off+i) cs.toList++v::List.drop (off+i+1) cs.toList).drop (off+i+1+vc.length)=List.drop (off+i+(v::vc).length) cs.toList:=by
   rw[List.drop_append]
   simp only[List.length_take,List.length_cons]
   rw[show min (off+i) cs.toList.length=off+i by omega]
   rw[List.drop_of_length_le (by simp;omega)]
   rw[show off+i+1+vc.length-(off+i)=vc.length+1 by omega]
   simp[show off+i+1+vc.length=off+i+(vc.length+1) by omega]
  rw[e1,e2]
  simp
def uW(U:Tr)(t:TypeId):Nat:=match U.get t with
 | some ft=>ft.info.size
 | none=>0
def run_places(fs:List Field)(h:Fw U fs=true)(w:World) :
  (fs.mapM (m:=Sem) fun f=>do pure (f.offset,← sizeOf f.type)).run P w = .ok (fs.map fun f=>(f.offset,uW U f.type)) w:=by
 induction fs with
 | nil=>rfl
 | cons f fs ih =>
  simp only[Fw]at h
  split at h
  ·rename_i ft Hu
   simp only[List.mapM_cons,Sem.run_bind,run_sizeOf Hu,Result.andThen_ok,Sem.run_pure,ih h,List.map_cons,uW,Hu]
  ·cases h
def Fm(ha:Has n L a)(fs:List Field)(ps:List (Nat × Operand)):∀(z:List Value) (v:Value),zp U L fs z ps=some v →
  ∃r,v = .agg r∧Instr.fill (fun i=>((fs.map fun f=>(f.offset,uW U f.type)).toArray)[i]?) z.toArray (ps.map fun x=>(x.1,a.eval x.2))=some r:=by
 induction ps with
 | nil=>intro z v h;simp only[zp]at h;cases h;exact⟨_,rfl,rfl⟩
 | cons p ps ih =>
  obtain⟨i,x⟩:=p
  intro z v h
  simp only[zp]at h
  split at h
  ·rename_i fd u sN hu
   split at h
   ·rename_i ft Hu
    cases rj:Nat.beq (bp u).length 0 with
    | true=>simp[rj]at h
    | false =>
    simp only[rj,cond_false]at h
    cases hb:Nat.beq (bp u).length ft.info.size with
    | false=>simp[hb]at h
    | true =>
     simp only[hb,cond_true]at h
     split at h
     ·rename_i z' Xf
      obtain⟨r,hv,hr⟩:=ih z' v h
      refine⟨r,hv,?_⟩
      rw[dM]at sN
      simp only[List.map_cons,Instr.fill,ha.ev hu]
      have Xy:((fs.map fun f=>(f.offset,uW U f.type)).toArray)[i]?=some (fd.offset,ft.info.size):=by
       simp[sN,uW,Hu]
      simp only[Xy]
      have hlen:(bp u).length=ft.info.size:=Nat.eq_of_beq_eq_true hb
      obtain⟨h1,h2,_⟩:=IM _ _ _ _ _ Xf
      have iB:u.cells.size=ft.info.size:=by rw[dQ];simpa using hlen
      by_cases he:bp u=[]
      ·rw[he]at rj;cases rj
      ·have h4:=h2 he
       simp only[he,if_false,Nat.add_zero]at h1
       rw[if_neg (by simp[iB];rw[← hlen];exact h1)]
       have:=Bp (bp u) 0 fd.offset z.toArray (by simpa using h1)
       simp only[Nat.add_zero]at this
       have e:((bp u).toArray.zipIdx.foldl (fun cs (x:Value × Nat)=>cs.setIfInBounds (fd.offset+x.2) x.1) z.toArray)=z'.toArray:=by
        apply Array.ext'
        rw[this,h4];simp
       rw[dQ]
       rw[show((bp u).toArray.zipIdx.foldl (fun cs (x:Value × Nat)=>match x with|(c,j)=>cs.setIfInBounds (fd.offset+j) c) z.toArray)=z'.toArray from e]
       exact hr
     ·cases h
   ·cases h
  ·cases h
def Cb{op:Op}{v:Value}{d:Option Tmp}{ty:TypeId}{pos:String}{af:Array Edge}{gd:Option (Nat × Bool)}(h:jv U op L=some v)(ha:Has n L a)(w:World):(execOp a.eval ⟨d,op,ty,pos,af,gd⟩).run P w = .ok (.value v) w:=by
 cases op with
 | binOp op t x y yt=>exact Cc h ha w
 | move x=>simp only[jv]at h;simp[execOp,ha.ev h]
 | assign x=>simp only[jv]at h;simp[execOp,ha.ev h]
 | nilCheck x =>
  simp only[jv]at h
  split at h
  ·rename_i hx;cases h;simp[execOp,ha.ev hx]
  ·rename_i hx;cases h;simp[execOp,ha.ev hx]
  ·cases h
 | fieldAddr s x f =>
  simp only[jv]at h
  split at h
  ·rename_i bR b o hs hx
   split at h
   ·rename_i fs nr
    split at h
    ·rename_i fd sN
     split at h
     ·rename_i ft Hu
      cases hz:Nat.beq ft.info.size 0 with
      | true=>simp[hz]at h
      | false =>
       simp only[hz,cond_false]at h
       cases h
       rw[dM]at sN
       have MH:fs[f]?=some fd:=by simpa using sN
       have bY:ft.info.size≠0:=Nat.ne_of_beq_eq_false hz
       simp only[execOp,ha.ev hx,Instr.fieldAt,Sem.run_bind,run_underlying hs,Result.andThen_ok,nr,MH,Instr.sureAddr,Sem.run_pure,fieldPlace,run_sizeOf Hu]
       rw[if_neg bY]
       simp only[Sem.run_pure,Result.andThen_ok,Addr.add]
       by_cases h0:fd.offset=0
       ·simp[h0]
       ·simp[h0]
     ·cases h
    ·cases h
   ·cases h
  ·cases h
 | field s x f =>
  simp only[jv]at h
  split at h
  ·rename_i bR cs hs hx
   split at h
   ·rename_i fs nr
    split at h
    ·rename_i fd sN
     split at h
     ·rename_i ft Hu
      rw[dM]at sN
      have MH:fs[f]?=some fd:=by simpa using sN
      simp only[execOp,ha.ev hx,Instr.field,Sem.run_bind,run_underlying hs,Result.andThen_ok,nr,MH,asAgg,Sem.run_pure,part,qQ Hu]
      cases hg:ft.isAgg with
      | true =>
       simp only[hg,cond_true]at h
       cases h
       simp[run_sizeOf Hu]
      | false =>
       simp only[hg,cond_false,dM]at h
       have h':cs[fd.offset]?=some v:=by simpa using h
       simp[h']
     ·cases h
    ·cases h
   ·cases h
  ·cases h
 | extract x i =>
  simp only[jv]at h
  split at h
  ·rename_i vs hx
   rw[dM]at h
   have h':vs[i]?=some v:=by simpa using h
   simp[execOp,ha.ev hx,Instr.extract,h']
  ·cases h
 | unOp op t x =>
  simp only[jv]at h
  split at h
  ·rename_i b hx;cases h;simp[execOp,ha.ev hx,Op.unary]
  ·cases h
 | makeFunc fn first captured =>
  simp only[jv]at h
  split at h
  ·rename_i fs cs h1 h2
   cases h
   simp only[execOp,nf ha _ _ h1,nf ha _ _ h2,Instr.makeFunc,Sem.run_bind,Sem.run_pure,Result.andThen_ok]
  ·cases h
 | build t parts =>
  simp only[jv]at h
  split at h
  ·rename_i bR ht
   split at h
   ·rename_i fs z nr hz
    cases qm:Fw U fs.toList with
    | false=>simp[qm]at h
    | true =>
     simp only[qm,cond_true]at h
     obtain⟨r,rfl,hr⟩:=Fm ha _ _ _ _ h
     have hp:(fs.mapM (m:=Sem) fun f=>do pure (f.offset,← sizeOf f.type)).run P w = .ok (fs.toList.map fun f=>(f.offset,uW U f.type)).toArray w:=by
      rw[Array.mapM_eq_mapM_toList]
      simp only[Sem.run_map,run_places _ qm,Result.andThen_ok]
     simp only[execOp,Instr.build,Sem.run_bind,dU ht hz,run_underlying ht,Result.andThen_ok,nr]
     rw[hp]
     simp only[Result.andThen_ok,Value.cells,Array.toList_map]
     simp only[Array.toArray_toList]at hr
     rw[show(List.map (fun x:Nat × Operand=>match x with|(i,x)=>(i,a.eval x)) parts.toList)=parts.toList.map (fun x=>(x.1,a.eval x.2))from rfl]
     rw[hr]
     simp
   ·cases h
  ·cases h
 | convert src dst x =>
  simp only[jv]at h
  split at h
  ·rename_i s dd sv hs hd hx
   split at h
   ·rename_i h1 h2
    cases h
    simp[execOp,ha.ev hx,convert,run_underlying hs,run_underlying hd,h1,h2]
   ·cases h
  ·cases h
 | call c =>
  obtain⟨callee,args,argTypes⟩:=c
  simp only[jv]at h
  split at h
  ·split at h
   ·rename_i t x ht hx
    have gT:args = #[x]:=by apply Array.ext';simpa using hx
    have ac3:argTypes = #[t]:=by apply Array.ext';simpa using ht
    subst gT;subst ac3
    split at h
    ·rename_i bR a1 m1 c1 h1 h2
     split at h
     ·rename_i hu
      cases h
      simp[execOp,resolve,invoke,builtin,Builtin.len_,ha.ev h2,run_underlying h1,hu,goInt]
     ·cases h
    ·rename_i bR s1 h1 h2
     split at h
     ·rename_i hu
      cases h
      simp[execOp,resolve,invoke,builtin,Builtin.len_,ha.ev h2,run_underlying h1,hu,goInt]
     ·cases h
    ·cases h
   ·cases h
  ·split at h
   ·rename_i x y hx
    have gT:args = #[x,y]:=by apply Array.ext';simpa using hx
    subst gT
    split at h
    ·rename_i k p k' q h1 h2
     cases h
     simp only[execOp,resolve,invoke,builtin,Builtin.max_,Sem.run_bind,Sem.run_pure,Result.andThen_ok,List.map_toArray,List.map_cons,List.map_nil,ha.ev h1,ha.ev h2,List.foldlM_cons,List.foldlM_nil,Builtin.max2]
     congr 3
     rw[Int.max_def];by_cases EH:p≤q
     ·by_cases h3:q=p
      ·subst h3;simp
      ·rw[if_pos ag,if_pos EH]
     ·rw[if_neg ag,if_neg EH]
    ·cases h
   ·cases h
  ·split at h
   ·rename_i x y hx
    have gT:args = #[x,y]:=by apply Array.ext';simpa using hx
    subst gT
    split at h
    ·rename_i k p k' q h1 h2
     cases h
     simp only[execOp,resolve,invoke,builtin,Builtin.min_,Sem.run_bind,Sem.run_pure,Result.andThen_ok,List.map_toArray,List.map_cons,List.map_nil,ha.ev h1,ha.ev h2,List.foldlM_cons,List.foldlM_nil,Builtin.min2]
     congr 3
     rw[Int.min_def];by_cases EH:p≤q
     ·by_cases h3:q=p
      ·subst h3;simp
      ·rw[if_neg ag,if_pos EH]
     ·rw[if_pos ag,if_neg EH]
    ·cases h
   ·cases h
  ·cases h
 | _=>cases h
inductive ael where
 | mk (aep:Bool) (rest:Pl) (L:fJ)
def PF(U:Tr)(n:Nat):Nat→Bool→Pl→fJ→ael
 | 0,b,rest,L => .mk b rest L
 | i+1,b,rest,L=>match rest with
  | .cons _ true ⟨some d,op,_,_,_,_⟩ rs=>bif Nat.blt d n then
    (match jv U op L with
    | some v=>PF U n i true rs ((d,v)::L)
    | none => .mk b rest L)else .mk b rest L
  | _ => .mk b rest L
end
section
variable{P:Program}{U:Tr}[hU:fX P U]{f:FuncId}{n:Nat}{R:Ending→World→Prop}{G:cJ}{k:List Item}{L:fJ}{H:List HP}{S:World→Prop}{all:Array Oper}{rest:Pl}
def dA{m:Bool}{d:Tmp}{op:Op}{ty:TypeId}{pos:String}{af:Array Edge}{gd:Option (Nat × Bool)}{v:Value}(hd:Nat.blt d n=true)(hv:∀a,Has n L a→∀w,(execOp a.eval ⟨some d,op,ty,pos,af,gd⟩).run P w = .ok (.value v) w)(h:J P f n R G S all rest k ((d,v)::L) H):J P f n R G S all (.cons m true ⟨some d,op,ty,pos,af,gd⟩ rest) k L H:=by
 intro a w ha hw hS
 have h1:=h _ w (ha.put hd v) hw (Sx.of hS)
 refine .inl ⟨.inl rfl,?_⟩
 cases m with
 | true=>exact .inl ⟨rfl,v,fun w _=>hv a ha.1 w,h1⟩
 | false =>
  refine .inr ⟨rfl,?_⟩
  exact iD (hv a ha.1 w) ⟨Sx.of hS,h1⟩
def YT(i:Nat):∀ {b b':Bool} {rest yd:Pl} {L L':fJ},PF U n i b rest L = .mk b' yd L'→J P f n R G S all yd k L' H→J P f n R G S all rest k L H:=by
 induction i with
 | zero=>intro b b' rest yd L L' h hj;simp only[PF]at h;cases h;exact hj
 | succ i ih =>
  intro b b' rest yd L L' h hj
  simp only[PF]at h
  split at h
  ·rename_i m d op ty pos af gd rs
   cases hd:Nat.blt d n with
   | false=>simp only[hd,cond_false]at h;cases h;exact hj
   | true =>
    simp only[hd,cond_true]at h
    split at h
    ·rename_i v hv
     exact dA hd (fun a ha w=>Cb hv ha w) (ih h hj)
    ·cases h;exact hj
  ·cases h;exact hj
def FP{yd:Pl}{L':fJ}(h:PF U n 1000 false rest L = .mk true yd L')(hj:J P f n R G S all yd k L' H):J P f n R G S all rest k L H :=
 YT 1000 h hj
end
end Go.SL
