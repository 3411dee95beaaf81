import Derived.OrdersHeld
import Derived.KernelRfl
import Derived.Laws.Cells
import Derived.Laws.CopyRow
import Derived.Laws.AppendOwn
import Derived.Laws.CopyOwn
import Derived.OrdersIn
import Derived.RangeFuncLeaves
import Derived.Laws.Strings
import Derived.IntWalk
set_option linter.unusedVariables false
set_option linter.defProp false
namespace Go.SL
def zr.{u} {α:Sort u} {a:α}:a=a:=Eq.refl a
def ai{p:Prop}(h:p:=by omega):p:=h
def ae{p:Prop}(h:p:=by kernel_rfl):p:=h
def iE{p:Prop}(h:p:=by(intro _ _ _ _ _;exact trivial)):p:=h
def bh{p:Prop}(h:p:=by(intro _ _ _;exact trivial)):p:=h
def eW{p:Prop}(h:p:=by(intro _ _;exact trivial)):p:=h
abbrev Hp:=Nat→Option Obj
abbrev HP:=Hp→Prop
def emp:HP:=fun h=>∀c,h c=none
def ag(b:Nat)(o:Obj):HP:=fun h=>∀c,h c=if c=b then some o else none
def star(A B:HP):HP:=fun h=>∃h1 h2:Hp,A h1∧B h2∧(∀b,h1 b=none∨h2 b=none)∧∀b,h b=(h1 b).or (h2 b)
def Sep:List HP→HP
 | []=>emp
 | A::l=>star A (Sep l)
def ex{α:Type}(A:α→HP):HP:=fun h=>∃x,A x h
def sub(h' h:Hp):Prop:=∀b o,h' b=some o→h b=some o
def cl(l:List Value)(e:TypeId):Obj := .cells l.toArray e (0,0)
theorem sub.refl(h:Hp):sub h h:=fun _ _ e=>e
def sub.trans{a b c:Hp}(h1:sub a b)(h2:sub b c):sub a c:=fun x o e=>h2 x o (h1 x o e)
theorem dL{A B:HP}{h:Hp}(hs:star A B h):star B A h:=by
 obtain⟨h1,h2,ha,hb,hd,he⟩:=hs
 refine⟨h2,h1,hb,ha,fun b=>(hd b).symm,fun b=>?_⟩
 grind
theorem iN{A B C:HP}{h:Hp}(hs:star A (star B C) h):star (star A B) C h:=by
 obtain⟨h1,h2,ha,⟨h3,h4,hb,hc,hd',he'⟩,hd,he⟩:=hs
 refine⟨fun b=>(h1 b).or (h3 b),h4,⟨h1,h3,ha,hb,fun b=>?_,fun b=>rfl⟩,hc,fun b=>?_,fun b=>?_⟩
 ·grind
 ·grind
 grind
theorem ei{A A' B B':HP}{h:Hp}(ha:∀h,A h→A' h)(hb:∀h,B h→B' h)(hs:star A B h):star A' B' h:=by
 obtain⟨h1,h2,h3,h4,hd,he⟩:=hs
 exact⟨h1,h2,ha _ h3,hb _ h4,hd,he⟩
theorem iZ{A B C:HP}{h:Hp}(hs:star (star A B) C h):star A (star B C) h:=by
 grind [dL,star,ei,iN]
theorem wP{A B C:HP}{h:Hp}(hs:star A (star B C) h):star B (star A C) h:=by
 grind [iN,iZ,ei,dL]
def qk{H H':List HP}(hp:H.Perm H'):∀h,Sep H h→Sep H' h:=by
 induction hp with
 | nil=>exact fun _ h=>h
 | cons A _ ih=>exact fun h hs=>ei (fun _ h=>h) ih hs
 | swap A B l=>exact fun h hs=>wP hs
 | trans _ _ ih1 ih2=>exact fun h hs=>ih2 h (ih1 h hs)
def pM{A:HP}{h:Hp}(ha:A h):star A emp h :=
 ⟨h,fun _=>none,ha,fun _=>rfl,fun _ => .inr rfl,fun b=>by simp⟩
theorem wQ{A:HP}{h:Hp}(hs:star A emp h):A h:=by
 obtain⟨h1,h2,ha,hb,hd,he⟩:=hs
 have:h=h1:=by funext b;rw[he b,hb b];simp
 grind
def uP{B:HP}{h:Hp}(hs:star emp B h):B h:=wQ (dL hs)
def j7{H1 H2:List HP}{h:Hp}(hs:Sep (H1++H2) h):star (Sep H1) (Sep H2) h:=by
 induction H1 generalizing h with
 | nil=>exact dL (pM hs)
 | cons A l ih=>exact iN (ei (fun _ h=>h) (fun _ h=>ih h) hs)
theorem gZ{H1 H2:List HP}{h:Hp}(hs:star (Sep H1) (Sep H2) h):Sep (H1++H2) h:=by
 induction H1 generalizing h with
 | nil=>exact uP hs
 | cons A l ih=>exact ei (fun _ h=>h) (fun _ h=>ih h) (iZ hs)
def cW{A:HP}{h:Hp}(hs:Sep [A] h):A h:=wQ hs
theorem cV{A:HP}{h:Hp}(ha:A h):Sep [A] h:=pM ha
def ao(H H':List HP):Prop:=∀h,Sep H h→∃h':Hp,sub h' h∧Sep H' h'
theorem ao.refl(H:List HP):ao H H:=fun h hs=>⟨h,sub.refl h,hs⟩
def ao.trans{H1 H2 H3:List HP}(a:ao H1 H2)(b:ao H2 H3):ao H1 H3:=fun h hs=>by
 obtain⟨h',s1,h1⟩:=a h hs
 obtain⟨h'',s2,h2⟩:=b h' h1
 exact⟨h'',s2.trans s1,h2⟩
def ao.perm{H H':List HP}(hp:H.Perm H'):ao H H':=fun h hs=>⟨h,sub.refl h,qk hp h hs⟩
def iM{A B:HP}{h:Hp}(hs:star A B h):∃h',sub h' h∧A h':=by
 obtain⟨h1,h2,ha,_,_,he⟩:=hs
 exact⟨h1,fun b o e=>by rw[he b,e];rfl,ha⟩
def tG{A B:HP}{h:Hp}(hs:star A B h):∃h',sub h' h∧B h':=iM (dL hs)
def ao.drop(A:HP)(H:List HP):ao (A::H) H:=fun _ hs=>tG hs
theorem ng{A B B':HP}{h:Hp}(hb:∀h,B h→∃h',sub h' h∧B' h')(hs:star A B h):∃h',sub h' h∧star A B' h':=by
 obtain⟨h1,h2,ha,mN,hd,he⟩:=hs
 obtain⟨h3,s3,Wa⟩:=hb _ mN
 refine⟨fun b=>(h1 b).or (h3 b),fun b o e=>?_,h1,h3,ha,Wa,fun b=>?_,fun b=>rfl⟩
 ·rw[he b]
  rcases hd b with e1|e1
  ·simp only[e1,Option.none_or]at e ⊢;exact s3 b o e
  ·have:h3 b=none:=by
    cases Ng:h3 b with
    | none=>rfl
    | some x=>have:=s3 b x Ng;rw[e1]at this;cases this
   grind
 ·rcases hd b with e1|e1
  ·exact .inl e1
  ·right
   cases Ng:h3 b with
   | none=>rfl
   | some x=>have:=s3 b x Ng;rw[e1]at this;cases this
def ao.cons{H H':List HP}(A:HP)(a:ao H H'):ao (A::H) (A::H'):=fun _ hs=>ng a hs
theorem ao.head{A:HP}{H B:List HP}(hA:∀h,A h→∃h',sub h' h∧Sep B h'):ao (A::H) (B++H):=fun h hs=>by
 obtain⟨h',s,N4⟩:=ng hA (dL hs)
 grind [gZ,dL]
def ao.fold{A:HP}{H B:List HP}(hA:∀h,Sep B h→∃h',sub h' h∧A h'):ao (B++H) (A::H):=fun h hs=>by
 obtain⟨h',s,N4⟩:=ng hA (dL (j7 hs))
 exact⟨h',s,dL N4⟩
theorem ao.append{H1 H2:List HP}(F:List HP)(a:ao H1 H2):ao (H1++F) (H2++F):=fun h hs=>by
 obtain⟨h',s,N4⟩:=ng a (dL (j7 hs))
 grind [gZ,dL]
structure bY where
 tape:Nat→Question→Nat
 os:Os
 output:Array (Nat × ByteArray)
 ro:Option Nat:=none
 lo:Nat:=0
 ds:List Nat:=[]
def Sat(G:bY)(w:World)(H:List HP):Prop :=
 (w.tape=G.tape∧G.lo≤w.drawn)∧w.os=G.os∧w.output=G.output∧∃h:Hp,(∀b o,h b=some o→w.heap[b]?=some o)∧Sep H h
def Sat.cn{G:bY}{w:World}{H H':List HP}(hs:Sat G w H)(he:ao H H'):Sat G w H':=by
 obtain⟨a,b,c,h,hw,hh⟩:=hs
 obtain⟨h',s,hh'⟩:=he h hh
 exact⟨a,b,c,h',fun x o e=>hw x o (s x o e),hh'⟩
def Sat.head{G:bY}{w:World}{A:HP}{H:List HP}(hs:Sat G w (A::H)):∃h:Hp,(∀b o,h b=some o→w.heap[b]?=some o)∧A h:=by
 obtain⟨a,b,c,h,hw,hh⟩:=hs
 obtain⟨h',s,hh'⟩:=iM hh
 exact⟨h',fun x o e=>hw x o (s x o e),hh'⟩
def ct{H:List HP}{i:Nat}{A:HP}(h:H[i]?=some A):H.Perm (A::H.eraseIdx i):=by
 induction H generalizing i with
 | nil=>simp at h
 | cons B l ih =>
  cases i with
  | zero=>simp at h;subst h;simp
  | succ i =>
   simp at h
   simp only[List.eraseIdx_cons_succ]
   exact((ih h).cons B).trans (List.Perm.swap _ _ _)
def Sat.get{G:bY}{w:World}{H:List HP}(hs:Sat G w H){i:Nat}{b:Nat}{o:Obj}(hi:H[i]?=some (ag b o)):w.heap[b]?=some o:=by
 obtain⟨h,hw,hh⟩:=(hs.cn (ao.perm (ct hi))).head
 exact hw b o (by rw[hh b];simp)
theorem Sat.lt{G:bY}{w:World}{H:List HP}(hs:Sat G w H){i:Nat}{b:Nat}{o:Obj}(hi:H[i]?=some (ag b o)):b<w.heap.size:=by
 have:=hs.get hi
 grind
theorem Sat.ne{G:bY}{w:World}{b1 b2:Nat}{o1 o2:Obj}{H:List HP}(hs:Sat G w (ag b1 o1::ag b2 o2::H)):b1≠b2:=by
 obtain⟨_,_,_,h,hw,hh⟩:=hs
 obtain⟨h1,h2,ha,hb,hd,he⟩:=hh
 obtain⟨h3,s,Wa⟩:=iM hb
 intro e
 have e1:h1 b1=some o1:=by rw[ha b1];simp
 have e2:h2 b2=some o2:=s b2 o2 (by rw[Wa b2];simp)
 grind
def Sat.draw{G:bY}{w:World}{H:List HP}(hs:Sat G w H)(n:Nat)(hn:w.drawn≤n:=by first|exact Nat.le_succ _|exact Nat.le_refl _|omega):Sat G { w with drawn:=n } H:=⟨⟨hs.1.1,Nat.le_trans hs.1.2 hn⟩,hs.2⟩
theorem Sat.alloc{G:bY}{w:World}{H:List HP}(hs:Sat G w H)(o:Obj):Sat G { w with heap:=w.heap.push o } (ag w.heap.size o::H):=by
 obtain⟨a,b,c,h,hw,hh⟩:=hs
 have cq:∀b,h b≠none→b<w.heap.size:=fun b hb=>by
  cases hx:h b with
  | none=>exact absurd hx hb
  | some x =>
   grind
 refine⟨a,b,c,fun x=>if x=w.heap.size then some o else h x,fun x o' e=>?_,fun x=>if x=w.heap.size then some o else none,h,fun c=>rfl,hh,fun x=>?_,fun x=>?_⟩
 ·grind
 ·grind
 grind
theorem Sat.yA{G:bY}{w:World}{H:List HP}{b:Nat}{o o':Obj}(hs:Sat G w (ag b o::H)) :
  Sat G { w with heap:=w.heap.setIfInBounds b o' } (ag b o'::H):=by
 have cq:b<w.heap.size:=hs.lt (i:=0) rfl
 obtain⟨a,b',c,h,hw,h1,h2,ha,hb,hd,he⟩:=hs
 have W8:h2 b=none:=by
  rcases hd b with e|e
  ·rw[ha b]at e;simp at e
  ·exact e
 refine⟨a,b',c,fun x=>if x=b then some o' else h x,fun x y e=>?_,fun x=>if x=b then some o' else none,h2,fun _=>rfl,hb,fun x=>?_,fun x=>?_⟩
 ·grind
 ·grind
 ·by_cases hx:x=b
  ·simp[hx]
  ·simp only[hx,if_false,Option.none_or]
   rw[he x,ha x];simp[hx]
inductive aal where
 | mk (A:HP) (rest:List HP)
 | no
def Nj:List HP→List HP→HP→aal
 | [],l,A => .mk A l
 | x::acc,l,A=>Nj acc (x::l) A
def JL:Nat→List HP→List HP→aal
 | _,[],_ => .no
 | 0,A::l,acc=>Nj acc l A
 | i+1,A::l,acc=>JL i l (A::acc)
inductive aam where
 | mk (pre rest:List HP)
 | no
def Nl:List HP→List HP→List HP→aam
 | [],l,r => .mk l r
 | x::acc,l,r=>Nl acc (x::l) r
def adj:List Nat→Nat→Nat
 | [],i=>i
 | r::rs,i=>bif Nat.blt r i then Nat.sub (adj rs i) 1 else adj rs i
def pU:List Nat→List Nat→List HP→List HP→aam
 | [],_,H,acc=>Nl acc [] H
 | i::is,gone,H,acc=>match JL (adj gone i) H []with
  | .mk A r=>pU is (i::gone) r (A::acc)
  | .no => .no
def Ni(acc l:List HP)(A B:HP)(r:List HP)(h:Nj acc l A = .mk B r):B=A∧r=acc.reverse++l:=by
 induction acc generalizing l with
 | nil=>simp[Nj]at h;simp[h]
 | cons x acc ih=>have:=ih (x::l) h;simp[this]
def xk(i:Nat)(H acc:List HP)(A:HP)(r:List HP)(h:JL i H acc = .mk A r):(acc.reverse++H).Perm (A::r):=by
 induction H generalizing i acc with
 | nil=>cases i <;> simp[JL]at h
 | cons B l ih =>
  cases i with
  | zero =>
   obtain⟨rfl,rfl⟩:=Ni _ _ _ _ _ h
   exact List.perm_middle
  | succ i=>have:=ih i (B::acc) h;simpa using this
def Nk(acc l r pre rest:List HP)(h:Nl acc l r = .mk pre rest):pre=acc.reverse++l∧rest=r:=by
 induction acc generalizing l with
 | nil=>simp[Nl]at h;simp[h]
 | cons x acc ih=>have:=ih (x::l) h;simp[this]
def ud(is gone:List Nat)(H acc pre rest:List HP)(h:pU is gone H acc = .mk pre rest):(acc.reverse++H).Perm (pre++rest):=by
 induction is generalizing gone H acc with
 | nil =>
  obtain⟨rfl,rfl⟩:=Nk _ _ _ _ _ h
  simp
 | cons i is ih =>
  simp only[pU]at h
  split at h
  ·rename_i A r hr
   have h1:=xk _ _ _ _ _ hr
   have h2:=ih _ _ _ h
   refine List.Perm.trans ?_ h2
   simp only[List.reverse_cons,List.append_assoc,List.singleton_append]
   exact List.Perm.append_left _ (by simpa using h1)
  ·cases h
def Sat.pick{G:bY}{w:World}{H pre rest:List HP}(is:List Nat)(hs:Sat G w H)(h:pU is [] H [] = .mk pre rest):Sat G w (pre++rest) :=
 hs.cn (ao.perm (by simpa using ud is [] H [] pre rest h))
def ao.pick{H pre rest:List HP}(is:List Nat)(h:pU is [] H [] = .mk pre rest):ao H (pre++rest) :=
 ao.perm (by simpa using ud is [] H [] pre rest h)
def ao.bE{H pre rest:List HP}(is:List Nat)(h:pU is [] H [] = .mk pre rest):ao H pre :=
 (ao.pick is h).trans (fun _ hs=>iM (j7 hs))
def Sat.set{G:bY}{w:World}{H:List HP}{i:Nat}{b:Nat}{o o':Obj}(hs:Sat G w H)(hi:H[i]?=some (ag b o)) :
  Sat G { w with heap:=w.heap.setIfInBounds b o' } (ag b o'::H.eraseIdx i) :=
 (hs.cn (ao.perm (ct hi))).yA
theorem qM{w:World}{b:Nat}{l:List Value}{e:TypeId}{off:Nat}{v:Value}(h:w.heap[b]?=some (cl l e)) :
  w.setCell ⟨b,off,none⟩ v={ w with heap:=w.heap.setIfInBounds b (cl (l.set off v) e) }:=by
 have cq:b<w.heap.size:=by
  grind
 have hb:w.heap[b]=cl l e:=by rw[Array.getElem?_eq_getElem cq]at h;exact Option.some.inj h
 unfold World.setCell
 congr 1
 grind [cl]
theorem cH{w:World}{b:Nat}{l:List Value}{e:TypeId}{off:Nat}(h:w.heap[b]?=some (cl l e)):w.cell? ⟨b,off,none⟩=l[off]? := by
 simp[World.cell?,h,cl]
theorem jv{w:World}{b:Nat}{l:List Value}{e:TypeId}{off:Nat}(h:w.heap[b]?=some (cl l e)):w.frozen? ⟨b,off,none⟩=false:=by
 simp only[World.frozen?,h,cl];simp
abbrev dS:=List (Nat × Value)
def cR:dS→Nat→Option Value
 | [],_=>none
 | (s,v)::l,t=>bif Nat.beq s t then some v else cR l t
def Has(n:Nat)(L:dS)(a:Act):Prop:=a.tmps.size=n∧True∧∀t v,cR L t=some v→a.tmps[t]?=some v
def ev(L:dS):Operand→Option Value
 | .tmp t=>cR L t
 | .const v=>some v
 | .func f=>some (.func (.func f) #[] #[])
 | .global g=>some (.pointer (some ⟨g,0,none⟩))
def Has.ev{n:Nat}{L:dS}{a:Act}{x:Operand}{v:Value}(h:Has n L a)(e:ev L x=some v):a.eval x=v:=by
 cases x with
 | tmp t=>simp only[SL.ev]at e;have:=h.2.2 t v e;simp[Act.eval,Array.getD_eq_getD_getElem?,this]
 | const c=>simp only[SL.ev]at e;cases e;rfl
 | global g=>simp only[SL.ev]at e;cases e;rfl
 | func f=>simp only[SL.ev]at e;cases e;rfl
def Has.put{n:Nat}{L:dS}{a:Act}{d:Nat}(h:Has n L a)(hd:Nat.blt d n=true)(v:Value):Has n ((d,v)::L) (a.put (some d) v):=by
 have hd':d<a.tmps.size:=by rw[h.1];simpa[Nat.blt_eq]using hd
 refine⟨by simpa[Act.put]using h.1,h.2.1,fun t u e=>?_⟩
 simp only[cR]at e
 cases hb:Nat.beq d t with
 | true =>
  have:d=t:=Nat.eq_of_beq_eq_true hb
  subst this
  simp only[hb,cond_true]at e
  cases e
  simp[Act.put,hd']
 | false =>
  simp only[hb,cond_false]at e
  have fy:d≠t:=Nat.ne_of_beq_eq_false hb
  simp only[Act.put,Array.getElem?_setIfInBounds_ne fy]
  exact h.2.2 t u e
def Has.sub{n:Nat}{L L':dS}{a:Act}(h:Has n L a)(hs:∀t v,cR L' t=some v→cR L t=some v):Has n L' a :=
 ⟨h.1,h.2.1,fun t v e=>h.2.2 t v (hs t v e)⟩
inductive HQ where
 | mk (vs:List Value)
 | no
def za:List Value→List Value→HQ
 | [],l => .mk l
 | x::acc,l=>za acc (x::l)
def Cr(L:dS):List Operand→List Value→HQ
 | [],acc=>za acc []
 | x::xs,acc=>match ev L x with
  | some v=>Cr L xs (v::acc)
  | none => .no
theorem oC(acc l vs:List Value)(h:za acc l = .mk vs):vs=acc.reverse++l:=by
 induction acc generalizing l with
 | nil=>simp[za]at h;simp[h]
 | cons x acc ih=>have:=ih (x::l) h;simp[this]
def Wi{n:Nat}{L:dS}{a:Act}(ha:Has n L a)(xs:List Operand)(acc vs:List Value)(h:Cr L xs acc = .mk vs):vs=acc.reverse++xs.map a.eval:=by
 induction xs generalizing acc with
 | nil=>have:=oC _ _ _ h;simpa using this
 | cons x xs ih =>
  simp only[Cr]at h
  split at h
  ·rename_i v hv
   have:=ih _ h
   rw[this,List.map_cons,ha.ev hv]
   simp
  ·cases h
theorem kJ{n:Nat}{L:dS}{a:Act}(ha:Has n L a)(xs:Array Operand)(vs:List Value)(h:Cr L xs.toList [] = .mk vs):xs.map a.eval=vs.toArray:=by
 have:=Wi ha _ _ _ h
 grind
def mark(r:Nat):Deferred:={ target := .collected r,args := #[] }
def pz(G:bY)(n:Nat)(L:dS)(a:Act):Prop:=Has n L a∧a.defers=G.ds.map mark
def pz.ev{G:bY}{n:Nat}{L:dS}{a:Act}{x:Operand}{v:Value}(h:pz G n L a)(e:SL.ev L x=some v):a.eval x=v:=h.1.ev e
def pz.put{G:bY}{n:Nat}{L:dS}{a:Act}{d:Nat}(h:pz G n L a)(hd:Nat.blt d n=true)(v:Value):pz G n ((d,v)::L) (a.put (some d) v):=⟨h.1.put hd v,h.2⟩
def pz.sub{G:bY}{n:Nat}{L L':dS}{a:Act}(h:pz G n L a)(hs:∀t v,cR L' t=some v→cR L t=some v):pz G n L' a:=⟨h.1.sub hs,h.2⟩
def pz.get{G:bY}{n:Nat}{L:dS}{a:Act}(h:pz G n L a){t:Nat}{v:Value}(e:cR L t=some v):a.tmps[t]?=some v:=h.1.2.2 t v e
def fw(ro:Option Nat):Fence:={ fn:=fun _=>True,depth:=none,alive:=false,round:=ro }
def q8(P:Program)(ro:Option Nat)(m:Machine):m.fenced P (fw ro):=fun _ _=>⟨fun h=>by simp[fw]at h,.inl trivial,fun _ _=>trivial,fun _ h=>by simp[fw]at h⟩
def Mk(ro:Option Nat)(n:Nat):(fw ro).room n:=fun _ h=>by simp[fw]at h
def D7{ro:Option Nat}{n:Nat}{P:Program}{f:FuncId}{args:Array Value}{w:World}{R:Ending→World→Prop}(h:Calls P f args w R):CallsIn (fw ro) n P f args w R :=
  ⟨trivial,fun cs _=>by
    obtain⟨e,w',fr,r,s,x⟩:=h cs
    refine⟨e,w',fr,r,?_,x⟩
    cases e with
    | returned v=>exact(StepsIn.of_steps s).mono fun m _=>q8 P ro m
    | panicked c=>exact(StepsIn.of_steps s).mono fun m _=>q8 P ro m
    | outgrown=>exact s⟩
def bf(ro:Option Nat)(f:FuncId)(a:Act)(k:List Item):Frame:=({ (default:Frame)with fn:=f,kind := .normal,roundOf:=ro }:Frame).atR a k
def HO(P:Program)(f:FuncId)(R:Ending→World→Prop)(cs:List Frame)(m:Machine):Option Nat→Prop
 | none=>∃e w' fr,R e w'∧Comes P m (lone fr cs w') e∧fr.fn=f∧fr.leaving P w' e
 | some _=>∀c vM,cs=c::vM→∃v w',R (.returned v) w'∧Steps P m (lone (c.finish v) vM w')
def HO.of_steps{P:Program}{f:FuncId}{R:Ending→World→Prop}{cs:List Frame}{m m':Machine}{ro:Option Nat}(hs:Steps P m m')(h:HO P f R cs m' ro):HO P f R cs m ro:=by
 cases ro with
 | none=>obtain⟨e,w',fr,hR,hc,h1⟩:=h;exact⟨e,w',fr,hR,Comes.of_steps hs hc,h1⟩
 | some l=>intro c vM jA;obtain⟨v,w',hR,hc⟩:=h c vM jA;exact⟨v,w',hR,hs.trans hc⟩
def Ok(P:Program)(f:FuncId)(R:Ending→World→Prop)(ro:Option Nat)(k:List Item)(a:Act)(w:World):Prop :=
 ∀cs,HO P f R cs (lone (bf ro f a k) cs w) ro
def K(P:Program)(f:FuncId)(n:Nat)(R:Ending→World→Prop)(G:bY)(k:List Item)(L:dS)(H:List HP):Prop :=
 ∀a w,pz G n L a→Sat G w H→Ok P f R G.ro k a w
def Qk(P:Program)(f:FuncId)(R:Ending→World→Prop)(ro:Option Nat)(k:List Item):Exit→Act→World→Prop
 | .normal,a,w=>Ok P f R ro k a w
 | _,_,_=>False
inductive Pl where
 | nil
 | cons (m g:Bool) (o:Oper) (rest:Pl)
 | fork (l r:Pl)
def Sx:Pl→(World→Prop)→World→Prop
 | .nil,_,_=>True
 | .cons _ _ _ _,S,w=>S w
 | .fork _ _,S,w=>S w
def Sx.of{rest:Pl}{S:World→Prop}{w:World}(h:S w):Sx rest S w:=by cases rest <;> first|exact trivial|exact h
def Ie(P:Program)(ro:Option Nat)(S:World→Prop)(Q:Exit→Act→World→Prop)(all:Array Oper):Pl→Act→World→Prop
  | .nil,a,w=>Q .normal a w
  | .cons m g o rest,a,w =>
    ((g=true∨Region.wanted o (yielded all a.tmps)=true) ∧
      ((m=true∧∃v,(∀w,S w→(execOp a.eval o).run P w = .ok (.value v) w)∧Ie P ro S Q all rest (a.put o.dst v) w) ∨
       (m=false∧o.wpIn (fw ro) 0 P a w (fun a' w'=>Sx rest S w'∧Ie P ro S Q all rest a' w') Q))) ∨
    (g=false∧Region.wanted o (yielded all a.tmps)=false∧Ie P ro S Q all rest (a.put o.dst undef) w)
  | .fork l r,a,w=>Ie P ro S Q all l a w∧Ie P ro S Q all r a w
def J(P:Program)(f:FuncId)(n:Nat)(R:Ending→World→Prop)(G:bY)(S:World→Prop)(all:Array Oper)(rest:Pl)(k:List Item)(L:dS)(H:List HP):Prop :=
 ∀a w,pz G n L a→Sat G w H→Sx rest S w→Ie P G.ro S (Qk P f R G.ro k) all rest a w
def pY:Option (Nat × Bool)→Bool
 | none=>true
 | _=>false
def items:List Oper→Pl
 | [] => .nil
 | o::l => .cons false (pY o.guard) o (items l)
def tO{P:Program}{ρ:Operand→Value}{o:Oper}{w w':World}{v:Value}(ro:Option Nat)(h:(execOp ρ o).run P w = .ok (.value v) w'):o.semAt ro ρ=execOp ρ o:=by
 refine Oper.semAt_eq ro ρ o fun c hc=>?_
 obtain⟨d,op,ty,pos,af,gd⟩:=o
 simp only at hc
 subst hc
 simp only[execOp,Sem.run_bind]at h
 cases hr:(resolve ρ c ty).run P w with
 | ok d' w1=>rw[hr]at h;simp at h
 | halt x w1=>rw[hr]at h;simp at h
theorem fe{P:Program}{ro:Option Nat}{o:Oper}{a:Act}{w w':World}{v:Value}{next:Act→World→Prop}{Q:Exit→Act→World→Prop}(h:(execOp a.eval o).run P w = .ok (.value v) w')(hn:next (a.put o.dst v) w'):o.wpIn (fw ro) 0 P a w next Q:=by
 refine⟨fun _ _=>trivial,?_⟩
 show o.uponIn (fw ro) 0 P a next Q ((o.semAt ro a.eval).run P w)
 rw[tO ro h,h]
 exact hn
def jP{P:Program}{ro:Option Nat}{o:Oper}{a:Act}{w:World}{next:Act→World→Prop}{Q:Exit→Act→World→Prop}{r:Result Next}(ho:∀c,o.op ≠ .defer c)(h:(execOp a.eval o).run P w=r)(hn:o.uponIn (fw ro) 0 P a next Q r):o.wpIn (fw ro) 0 P a w next Q:=by
 refine⟨fun _ _=>trivial,?_⟩
 show o.uponIn (fw ro) 0 P a next Q ((o.semAt ro a.eval).run P w)
 rw[Oper.semAt_eq ro a.eval o ho,h]
 exact hn
def wpIn_skip{P:Program}{ro:Option Nat}{o:Oper}{a:Act}{w w':World}{next:Act→World→Prop}{Q:Exit→Act→World→Prop}(h:(execOp a.eval o).run P w = .ok .skip w')(hn:next (a.put o.dst undef) w'):o.wpIn (fw ro) 0 P a w next Q:=by
 refine jP (fun c hc=>?_) h hn
 obtain⟨d,op,ty,pos,af,gd⟩:=o
 simp only at hc
 subst hc
 simp only[execOp,Sem.run_bind]at h
 cases hr:(resolve a.eval c ty).run P w with
 | ok d' w1=>rw[hr]at h;simp at h
 | halt x w1=>rw[hr]at h;simp at h
theorem qG{P:Program}{ro:Option Nat}{o:Oper}{a:Act}{w:World}{f:FuncId}{args:Array Value}{w':World}{next:Act→World→Prop}{Q:Exit→Act→World→Prop}(ho:∀c,o.op ≠ .defer c)(h:(execOp a.eval o).run P w = .ok (.enter f args) w')(hn:Calls P f args w' fun e w''=>∃v,e = .returned v∧next (a.put o.dst v) w''):o.wpIn (fw ro) 0 P a w next Q:=by
 refine jP ho h ⟨fun h=>by simp[fw]at h,D7 (hn.mono ?_)⟩
 grind
section
variable{P:Program}{f:FuncId}{n:Nat}{R:Ending→World→Prop}{G:bY}{k:List Item}{L:dS}{H:List HP}
def aao{c:Code}(h:∀a w,pz G n L a→Sat G w H→c.wpIn (fw G.ro) 0 P (Qk P f R G.ro k) a w):K P f n R G (.code c::k) L H:=by
 intro a w ha hw cs
 obtain⟨e,a',w',hq,abI⟩:=h a w ha hw ({ (default:Frame)with fn:=f,kind := .normal,roundOf:=G.ro }:Frame) k cs rfl trivial (Mk _ _)
 cases e with
 | normal=>exact(hq cs).of_steps (StepsIn.steps abI)
 | exit id=>exact hq.elim
 | goto l=>exact hq.elim
 | ret=>exact hq.elim
 | panic c=>exact hq.elim
 | outgrown=>exact hq.elim
def lj{k':List Item}(hs:∀a cs w,step P (lone (bf G.ro f a k) cs w) = .next (lone (bf G.ro f a k') cs w))(h:K P f n R G k' L H):K P f n R G k L H :=
 fun a w ha hw cs=>(h a w ha hw cs).of_steps (.one (hs a cs w))
def FL{L':dS}(hs:∀t v,cR L' t=some v→cR L t=some v)(h:K P f n R G k L' H):K P f n R G k L H :=
 fun a w ha hw=>h a w (ha.sub hs) hw
def ak{H':List HP}(he:ao H H')(h:K P f n R G k L H'):K P f n R G k L H :=
 fun a w ha hw=>h a w ha (hw.cn he)
def nY(h:(∃w,Sat G w H)→K P f n R G k L H):K P f n R G k L H:=fun a w ha hw=>h ⟨w,hw⟩ a w ha hw
def cI{α:Type}{A:HP}{B:α→List HP}{q:α→Prop}(hA:∀h,A h→∃x,q x∧Sep (B x) h)(h:∀x,q x→K P f n R G k L (B x++H)):K P f n R G k L (A::H):=by
 intro a w ha hw
 obtain⟨t,o,u,hp,zU,h1,h2,xH,hH,hd,he⟩:=hw
 obtain⟨x,hx,hB⟩:=hA _ xH
 exact h x hx a w ha ⟨t,o,u,hp,zU,gZ ⟨h1,h2,hB,hH,hd,he⟩⟩
variable{S:World→Prop}{all:Array Oper}{rest:Pl}
def Ln{L':dS}(hs:∀t v,cR L' t=some v→cR L t=some v)(h:J P f n R G S all rest k L' H):J P f n R G S all rest k L H :=
 fun a w ha hw=>h a w (ha.sub hs) hw
def aS{H':List HP}(he:ao H H')(h:J P f n R G S all rest k L H'):J P f n R G S all rest k L H :=
 fun a w ha hw=>h a w ha (hw.cn he)
def yl(h:∀w,Sat G w H→J P f n R G S all rest k L H):J P f n R G S all rest k L H:=fun a w ha hw=>h w hw a w ha hw
def Ew{α:Type}{A:HP}{B:α→List HP}{q:α→Prop}(hA:∀h,A h→∃x,q x∧Sep (B x) h)(h:∀x,q x→J P f n R G S all rest k L (B x++H)):J P f n R G S all rest k L (A::H):=by
 intro a w ha hw
 obtain⟨t,o,u,hp,zU,h1,h2,xH,hH,hd,he⟩:=hw
 obtain⟨x,hx,hB⟩:=hA _ xH
 exact h x hx a w ha ⟨t,o,u,hp,zU,gZ ⟨h1,h2,hB,hH,hd,he⟩⟩
def B4(h:K P f n R G k L H):J P f n R G S all .nil k L H:=fun a w ha hw _=>h a w ha hw
def od{l r:Pl}(h1:J P f n R G S all l k L H)(h2:J P f n R G S all r k L H):J P f n R G S all (.fork l r) k L H:=fun a w ha hw hS=>⟨h1 a w ha hw (Sx.of hS),h2 a w ha hw (Sx.of hS)⟩
theorem hX{o:Oper}{y:Nat→Option Bool}(h:pY o.guard=true):Region.wanted o y=true:=by
 unfold pY at h
 unfold Region.wanted
 grind
def yr{ro:Option Nat}{Q:Exit→Act→World→Prop}(l:List Oper):∀(i:Nat) (a:Act) (w:World),(∀j,all[i+j]?=l[j]?) →
  Ie P ro (fun _=>True) Q all (items l) a w→wpOpsIn (fw ro) 0 P all Q (List.range' i l.length) a w:=by
 induction l with
 | nil=>exact fun i a w _ h=>h
 | cons o l ih =>
  intro i a w hl h
  have h0:all[i]?=some o:=by simpa using hl 0
  have Iw:∀j,all[i+1+j]?=l[j]? := fun j=>by have:=hl (j+1);simp at this;rw[← this];congr 1;omega
  simp only[List.length_cons,List.range'_succ,wpOpsIn,h0]
  simp only[items,Ie]at h
  rcases h with⟨hg,⟨hm,_⟩|⟨_,hw⟩⟩|⟨_,hw,h⟩
  ·cases hm
  ·have AX:Region.wanted o (yielded all a.tmps)=true:=hg.elim hX id
   simp only[AX,if_true]
   exact Oper.wpIn_mono (fun a' w' h'=>ih (i+1) a' w' Iw h'.2) hw
  ·simp only[hw,Bool.false_eq_true,if_false]
   exact⟨fun _ _=>trivial,ih (i+1) _ w Iw h⟩
def Ll{id:Nat}{ops:Array Oper}(h:J P f n R G (fun _=>True) ops (items ops.toList) k L H):K P f n R G (.code (.region id ops false)::k) L H :=
 aao fun a w ha hw=>wpIn_region (by
  have:=yr (P:=P) (all:=ops) (Q:=Qk P f R G.ro k) ops.toList 0 a w (by simp) (h a w ha hw (Sx.of (S:=fun _=>True) trivial))
  rw[List.range_eq_range']
  simpa using this)
inductive Pt where
 | nil
 | st (i:Nat) (p:Pt)
 | act (i:Nat) (p:Pt)
 | fork (l r:Pt)
def db(all:Array Oper):Pt→Pl
 | .nil => .nil
 | .st i p=>match all.toList[i]? with
  | some o => .cons true (pY o.guard) o (db all p)
  | none=>db all p
 | .act i p=>match all.toList[i]? with
  | some o => .cons false (pY o.guard) o (db all p)
  | none=>db all p
 | .fork l r => .fork (db all l) (db all r)
def Pt.nD:Pt→List Nat
 | .act i _=>[i]
 | .fork l r=>l.nD++r.nD
 | _=>[]
def Pt.depth:Pt→Nat
 | .nil=>0
 | .st _ p=>p.depth+1
 | .act _ p=>p.depth+1
 | .fork l r=>max l.depth r.depth
def Pt.isNil:Pt→Bool
 | .nil=>true
 | _=>false
def AB(all:Array Oper)(i:Nat):List Nat:=match all[i]? with
 | some o=>(o.after.toList.filter fun e=>Region.binds .any e).map (·.on)
 | none=>[]
def pass(all:Array Oper):Nat→List Nat→List Nat
 | 0,s=>s
 | k+1,s=>pass all k (if s.contains k then AB all k++s else s)
def l6(all:Array Oper)(j:Nat):Bool:=(List.range all.size).all fun i=>Nat.beq i j || (pass all all.size (AB all j)).contains i
def da(all:Array Oper):Bool→Pt→Array Bool→Bool
 | top,.nil,listed=>top && (Region.ready .any all listed).isEmpty
 | top,.st i p,listed=>top && decide (i<all.size) && Region.free .any all listed i && (Region.ready .any all listed).contains i && da all true p (listed.setIfInBounds i true)
 | top,.act i p,listed=>(!top || (Region.ready .any all listed).all (fun j=>Nat.beq j i)) && (Region.ready .any all listed).contains i && decide (i<all.size) && (!p.isNil || l6 all i) && da all true p (listed.setIfInBounds i true)
 | top,.fork l r,listed=>(!top || (Region.ready .any all listed).all (fun j=>(l.nD++r.nD).contains j)) && da all false l listed && da all false r listed
def xo(ops:Array Oper):Bool:=ops.toList.all fun o=>match o.op with
 | .defer _=>false
 | _=>true
theorem Dp{ops:Array Oper}(h:xo ops=true){j:Nat}{o:Oper}(hj:ops[j]?=some o):∀c,o.op ≠ .defer c:=by
 intro c hc
 have hm:o∈ops.toList:=by
  grind
 have:=List.all_eq_true.1 h o hm
 grind
def NP(P:Program)(ro:Option Nat)(ops:Array Oper)(Q:Exit→Act→World→Prop)(S:World→Prop):Nat→Array Bool→Act→World→Prop
 | 0,listed,a,w=>Region.ready .any ops listed=[]∧Q .normal a w
 | fuel+1,listed,a,w =>
  (Region.ready .any ops listed=[]→Q .normal a w) ∧
  ∀i∈Region.ready .any ops listed,wpOpIn (fw ro) 0 P ops Q i (fun a' w'=>(S w'∨l6 ops i=true)∧NP P ro ops Q S fuel (listed.setIfInBounds i true) a' w') a w
def pD{P:Program}{ro:Option Nat}{ops:Array Oper}{Q:Exit→Act→World→Prop}{S:World→Prop}:∀(fuel:Nat) (listed:Array Bool) (a:Act) (w:World),NP P ro ops Q S fuel listed a w→wpAnyIn (fw ro) 0 P .any ops Q fuel listed a w
 | 0,_,_,_,h=>h
 | fuel+1,_,_,_,h=>⟨h.1,fun i hi=>wpOpIn_mono (fun a' w' h'=>pD fuel _ a' w' h'.2) (h.2 i hi)⟩
theorem rI{P:Program}{ro:Option Nat}{ops:Array Oper}{Q:Exit→Act→World→Prop}{S:World→Prop}{i:Nat}{o:Oper}{v:Value}{a:Act}(hi:ops[i]?=some o)(hy:YieldsIf P ops S o v a){K:Act→World→Prop}{w:World}(hS:S w)(h:K (a.put o.dst v) w):wpOpIn (fw ro) 0 P ops Q i K a w:=by
 unfold wpOpIn
 simp only[hi]
 rcases hy with⟨hw,hv⟩|⟨hw,rfl⟩
 ·grind [fe]
 ·simp only[hw,Bool.false_eq_true,if_false];exact⟨fun _ _=>trivial,h⟩
def wpOp_put{P:Program}{ro:Option Nat}{ops:Array Oper}{Q:Exit→Act→World→Prop}{S:World→Prop}{j:Nat}{oi oj:Oper}{v:Value}(hj:ops[j]?=some oj)(Hb:oi.apart ops oj=true)(hsi:∀cs b,oi.op ≠ .select cs b)(hsj:∀cs b,oj.op ≠ .select cs b)(V2:∀c,oj.op ≠ .defer c)(hQ:∀c a w,Q (.panic c) (a.put oi.dst v) w→Q (.panic c) a w){K:Act→World→Prop}{a:Act}{w:World}(hy:YieldsIf P ops S oi v a)(h:wpOpIn (fw ro) 0 P ops Q j K (a.put oi.dst v) w) :
  wpOpIn (fw ro) 0 P ops Q j (fun a' w'=>YieldsIf P ops S oi v a'∧K (a'.put oi.dst v) w') a w:=by
 obtain⟨h1,h2,h3⟩:=Oper.apart_spec Hb
 have stay:∀u,YieldsIf P ops S oi v (a.put oj.dst u):=fun u=>hy.of_same (execOp_put oi hsi a oj.dst u h3) (wanted_put oi a oj.dst u h3)
 have on:∀u w',K ((a.put oi.dst v).put oj.dst u) w'→YieldsIf P ops S oi v (a.put oj.dst u)∧K ((a.put oj.dst u).put oi.dst v) w':=fun u w' hk=>⟨stay u,by rw[← Act.put_comm a v u h2];exact hk⟩
 unfold wpOpIn at h ⊢
 rw[hj]at h ⊢
 simp only[wanted_put oj a oi.dst v h1]at h ⊢
 cases hw:Region.wanted oj (yielded ops a.tmps)with
 | false=>simp only[hw,Bool.false_eq_true,if_false]at h ⊢;exact⟨fun _ _=>trivial,on _ _ h.2⟩
 | true =>
  simp only[hw,if_true]at h ⊢
  have h:=h.2
  rw[show(fw ro).round=ro from rfl,Oper.semAt_eq ro _ oj V2,execOp_put oj hsj a oi.dst v h1]at h
  refine jP V2 rfl ?_
  generalize (execOp a.eval oj).run P w=r at h ⊢
  cases r with
  | ok x w' =>
   cases x <;> simp only[Oper.uponIn]at h ⊢
   case value u=>exact on _ _ h
   case skip=>exact on _ _ h
   case defer d=>exact⟨hy.of_same zr zr |>.of_same (execOp_put oi hsi _ oj.dst undef h3) (wanted_put oi _ oj.dst undef h3),by rw[← Act.put_comm _ v undef h2,← Act.put_defers];exact h⟩
   case enter f args =>
    refine⟨h.1,CallsIn.mono h.2 fun e w'' he=>?_⟩
    cases e with
    | returned u=>exact on _ _ he
    | panicked c=>exact hQ _ _ _ he
    | outgrown=>exact he
   case row row args=>exact⟨h.1,RowsIn.mono h.2 fun u w'' he=>on _ _ he⟩
   case round l f tmps assign body =>
    refine⟨h.1,RoundIn.mono h.2 fun e w'' he=>?_⟩
    cases e with
    | returned u=>exact on _ _ he
    | panicked c=>exact hQ _ _ _ he
    | outgrown=>exact he
  | halt x w' =>
   cases x <;> simp only[Oper.uponIn]at h ⊢
   case panic u=>exact hQ _ _ _ h
def Down(ops:Array Oper)(listed:Array Bool):Prop:=listed.size=ops.size∧∀i,i<ops.size→listed.getD i false=true→∀p∈AB ops i,listed.getD p false=true
theorem rO{ops:Array Oper}{listed:Array Bool}{i:Nat}(h:i∈Region.ready .any ops listed):∀p∈AB ops i,listed.getD p false=true:=by
 obtain⟨h0,o,ho,dX⟩:=mem_ready.1 h
 grind [AB]
theorem Down.set{ops:Array Oper}{listed:Array Bool}{i:Nat}(hd:Down ops listed)(h:i∈Region.ready .any ops listed):Down ops (listed.setIfInBounds i true):=by
 refine⟨by simp[hd.1],fun j hj hl p hp=>?_⟩
 have xD:∀q,listed.getD q false=true→(listed.setIfInBounds i true).getD q false=true:=fun q hq=>getD_set_true hq
 by_cases G1:i=j
 ·grind [rO]
 ·rw[getD_set_ne false G1]at hl
  exact xD p (hd.2 j hj hl p hp)
theorem AF{ops:Array Oper}{listed:Array Bool}(hd:Down ops listed):∀(k:Nat) (s:List Nat),k≤ops.size→(∀x∈s,listed.getD x false=true)→∀x∈pass ops k s,listed.getD x false=true:=by
 intro k
 induction k with
 | zero=>intro s _ h x hx;exact h x hx
 | succ k ih =>
  intro s hk h x hx
  simp only[pass]at hx
  refine ih _ ai ?_ x hx
  intro y hy
  split at hy
  ·rename_i hc
   rcases List.mem_append.1 hy with hy|hy
   ·exact hd.2 k ai (h k (by simpa using hc)) y hy
   grind
  grind
theorem AT{ops:Array Oper}{listed:Array Bool}{j:Nat}(hd:Down ops listed)(h:j∈Region.ready .any ops listed)(hl:l6 ops j=true){i:Nat}(hi:i<ops.size)(fy:j≠i):listed.getD i false=true:=by
 simp only[l6,List.all_eq_true,List.mem_range,Bool.or_eq_true]at hl
 rcases hl i hi with h1|h1
 ·simp_all
 ·exact AF hd _ _ (Nat.le_refl _) (rO h) i (by simpa using h1)
theorem wF{P:Program}{ro:Option Nat}{ops:Array Oper}{Q:Exit→Act→World→Prop}{S:World→Prop}{i:Nat}{oi:Oper}{v:Value}(hi:ops[i]?=some oi)(Y0:∀(j:Nat) (o:Oper) cs b,ops[j]?=some o→o.op ≠ .select cs b)(abz:xo ops=true)(hQ:∀c a w,Q (.panic c) (a.put oi.dst v) w→Q (.panic c) a w) :
  ∀(fuel:Nat) (listed:Array Bool) (a:Act) (w:World),Down ops listed →
   (∀j oj,ops[j]?=some oj→j≠i→listed.getD j true=false→(∀e∈oj.after,Region.binds .any e=true→e.on≠i)→oi.apart ops oj=true) →
   i∈Region.ready .any ops listed→YieldsIf P ops S oi v a→S w →
   NP P ro ops Q S fuel (listed.setIfInBounds i true) (a.put oi.dst v) w→NP P ro ops Q S (fuel+1) listed a w:=by
 intro fuel
 have aco:i<ops.size:=(Array.getElem?_eq_some_iff.1 hi).1
 induction fuel with
 | zero =>
  intro listed a w _ _ hr hy hS H
  refine⟨fun h=>(by rw[h]at hr;cases hr),fun j hj=>?_⟩
  by_cases Od:j=i
  ·subst Od;exact rI hi hy hS ⟨.inl hS,H⟩
  ·have:=ready_mono hj Od
   rw[H.1]at this
   cases this
 | succ fuel ih =>
  intro listed a w ZG Bc hr hy hS H
  refine⟨fun h=>(by rw[h]at hr;cases hr),fun j hj=>?_⟩
  by_cases Od:j=i
  ·subst Od;exact rI hi hy hS ⟨.inl hS,H⟩
  ·have h1:=H.2 j (ready_mono hj Od)
   obtain⟨Zk,oj,WQ,dX⟩:=mem_ready.1 hj
   have h0:=(mem_ready.1 hr).1
   have js:∀e∈oj.after,Region.binds .any e=true→e.on≠i:=fun e he hb heq=>by
    grind
   have LY:l6 ops j≠true:=fun hl=>by
    grind [AT]
   have h2:=wpOp_put WQ (Bc j oj WQ Od Zk js) (fun cs b=>Y0 i oi cs b hi) (fun cs b=>Y0 j oj cs b WQ) (Dp abz WQ) hQ hy h1
   have VW:∀k ok,ops[k]?=some ok→k≠i→(listed.setIfInBounds j true).getD k true=false →
     (∀e∈ok.after,Region.binds .any e=true→e.on≠i)→oi.apart ops ok=true:=fun k ok hk Zj hun oK=>by
    refine Bc k ok hk Zj ?_ oK
    by_cases hjk:j=k
    ·subst hjk;exact Zk
    ·rw[getD_set_ne true hjk]at hun;exact hun
   refine wpOpIn_mono (fun a' w' h3=>?_) h2
   have KB:S w':=h3.2.1.resolve_right LY
   refine⟨.inl KB,ih (listed.setIfInBounds j true) a' w' (ZG.set hj) VW (ready_mono hr (Ne.symm Od)) h3.1 KB ?_⟩
   rw[Array.setIfInBounds_comm _ _ Od]
   exact h3.2.2
theorem Cv{ro:Option Nat}{Q:Exit→Act→World→Prop}(hQ:∀c a w,¬Q (.panic c) a w)(LX:Region.noSelect all=true)(gp:xo all=true)(p:Pt) :
  ∀(fuel:Nat) (listed:Array Bool) (a:Act) (w:World),Down all listed→p.depth≤fuel→(p.depth≠0→S w)→Ie P ro S Q all (db all p) a w →
  (da all true p listed=true→NP P ro all Q S fuel listed a w) ∧
  (da all false p listed=true→∀i∈p.nD,∃g,fuel=g+1∧wpOpIn (fw ro) 0 P all Q i (fun a' w'=>(S w'∨l6 all i=true)∧NP P ro all Q S g (listed.setIfInBounds i true) a' w') a w):=by
 induction p with
 | nil =>
  intro fuel listed a w hd hf hS h
  refine⟨fun hp=>?_,fun hp=>by simp[da]at hp⟩
  simp only[da,Bool.true_and,List.isEmpty_iff]at hp
  cases fuel with
  | zero=>exact⟨hp,h⟩
  | succ g=>exact⟨fun _=>h,by rw[hp];simp⟩
 | st i p ih =>
  intro fuel listed a w hd hf hS h
  refine⟨fun hp=>?_,fun hp=>by simp[da]at hp⟩
  obtain⟨fuel,rfl⟩:∃g,fuel=g+1:=⟨fuel-1,by simp[Pt.depth]at hf;omega⟩
  have Iy:p.depth≤fuel:=by simp[Pt.depth]at hf;omega
  have Wd:=hS (by simp[Pt.depth])
  simp only[da,Bool.true_and,Bool.and_eq_true,decide_eq_true_eq]at hp
  obtain⟨⟨⟨hi,Bc⟩,DC⟩,pC⟩:=hp
  have ho:all[i]?=some all[i]:=by simp[hi]
  have ho':all.toList[i]?=some all[i]:=by simp[hi]
  have sQ:i∈Region.ready .any all listed:=by simpa using DC
  simp only[db,ho',Ie]at h
  have hq:∀(v:Value),∀c (a:Act) w,Q (.panic c) (a.put all[i].dst v) w→Q (.panic c) a w:=fun v c a w hq=>(hQ c _ w hq).elim
  rcases h with⟨hg,⟨_,v,hv,h⟩|⟨hm,_⟩⟩|⟨_,hw,h⟩
  ·have AX:Region.wanted all[i] (yielded all a.tmps)=true:=hg.elim hX id
   exact wF ho (Region.noSelect_spec LX) gp (hq v) fuel listed a w hd (Region.free_spec ho Bc) sQ (.inl ⟨AX,hv⟩) Wd ((ih fuel _ _ w (hd.set sQ) Iy (fun _=>Wd) h).1 pC)
  ·cases hm
  ·exact wF ho (Region.noSelect_spec LX) gp (hq undef) fuel listed a w hd (Region.free_spec ho Bc) sQ (.inr ⟨hw,rfl⟩) Wd ((ih fuel _ _ w (hd.set sQ) Iy (fun _=>Wd) h).1 pC)
 | act i p ih =>
  intro fuel listed a w hd hf hS h
  obtain⟨fuel,rfl⟩:∃g,fuel=g+1:=⟨fuel-1,by simp[Pt.depth]at hf;omega⟩
  have Iy:p.depth≤fuel:=by simp[Pt.depth]at hf;omega
  have Wd:=hS (by simp[Pt.depth])
  have key:i∈Region.ready .any all listed→i<all.size→((!p.isNil || l6 all i)=true)→da all true p (listed.setIfInBounds i true)=true →
    wpOpIn (fw ro) 0 P all Q i (fun a' w'=>(S w'∨l6 all i=true)∧NP P ro all Q S fuel (listed.setIfInBounds i true) a' w') a w:=by
   intro sQ hi kG pC
   have ho:all[i]?=some all[i]:=by simp[hi]
   have ho':all.toList[i]?=some all[i]:=by simp[hi]
   simp only[db,ho',Ie]at h
   unfold wpOpIn
   simp only[ho]
   rcases h with⟨hg,⟨hm,_⟩|⟨_,hw⟩⟩|⟨_,hw,h⟩
   ·cases hm
   ·have AX:Region.wanted all[i] (yielded all a.tmps)=true:=hg.elim hX id
    simp only[AX,if_true]
    refine Oper.wpIn_mono (fun a' w' h'=>?_) hw
    cases p with
    | nil=>exact⟨.inr (by simpa[Pt.isNil]using kG),(ih fuel _ a' w' (hd.set sQ) Iy (fun h=>absurd rfl h) h'.2).1 pC⟩
    | st j q =>
     have KB:S w':=by
      have:=h'.1
      simp only[db]at this
      have hj:j<all.size:=by simp only[da,Bool.true_and,Bool.and_eq_true,decide_eq_true_eq]at pC;exact pC.1.1.1
      have nC:all.toList[j]?=some all[j]:=by simp[hj]
      simp only[nC]at this
      exact this
     exact⟨.inl KB,(ih fuel _ a' w' (hd.set sQ) Iy (fun _=>KB) h'.2).1 pC⟩
    | act j q =>
     have KB:S w':=by
      have:=h'.1
      simp only[db]at this
      have hj:j<all.size:=by simp only[da,Bool.and_eq_true,decide_eq_true_eq]at pC;exact pC.1.1.2
      have nC:all.toList[j]?=some all[j]:=by simp[hj]
      simp only[nC]at this
      exact this
     exact⟨.inl KB,(ih fuel _ a' w' (hd.set sQ) Iy (fun _=>KB) h'.2).1 pC⟩
    | fork l r =>
     have KB:S w':=h'.1
     exact⟨.inl KB,(ih fuel _ a' w' (hd.set sQ) Iy (fun _=>KB) h'.2).1 pC⟩
   ·simp only[hw,Bool.false_eq_true,if_false]
    exact⟨fun _ _=>trivial,.inl Wd,(ih fuel _ _ w (hd.set sQ) Iy (fun _=>Wd) h).1 pC⟩
  constructor
  ·intro hp
   simp only[da,Bool.and_eq_true,decide_eq_true_eq,Bool.not_true,Bool.false_or]at hp
   obtain⟨⟨⟨⟨dX,DC⟩,hi⟩,kG⟩,pC⟩:=hp
   have sQ:i∈Region.ready .any all listed:=by simpa using DC
   refine⟨fun h0=>(by rw[h0]at sQ;cases sQ),fun j hj=>?_⟩
   simp_all
  grind [da,Pt.nD]
 | fork l r ihl ihr =>
  intro fuel listed a w hd hf hS h
  simp only[Pt.depth]at hf hS
  simp only[db,Ie]at h
  have h1:=ihl fuel listed a w hd ai (fun h0=>hS ai) h.1
  have h2:=ihr fuel listed a w hd ai (fun h0=>hS ai) h.2
  have key:da all false l listed=true→da all false r listed=true→∀i∈l.nD++r.nD,∃g,fuel=g+1∧wpOpIn (fw ro) 0 P all Q i (fun a' w'=>(S w'∨l6 all i=true)∧NP P ro all Q S g (listed.setIfInBounds i true) a' w') a w:=by
   intro hl hr i hi
   rcases List.mem_append.1 hi with hi|hi
   ·exact h1.2 hl i hi
   ·exact h2.2 hr i hi
  constructor
  ·intro hp
   simp only[da,Bool.and_eq_true,Bool.not_true,Bool.false_or]at hp
   obtain⟨⟨dX,hl⟩,hr⟩:=hp
   have fy:∀ {q:Pt},da all false q listed=true→∃i∈q.nD,i∈Region.ready .any all listed:=by
    intro q hq
    induction q with
    | nil=>simp[da]at hq
    | st=>simp[da]at hq
    | act i p=>simp only[da,Bool.and_eq_true]at hq;exact⟨i,by simp[Pt.nD],by simpa using hq.1.1.1.2⟩
    | fork a b iha ihb =>
     grind [da,Pt.nD]
   obtain⟨i0,G4,Y5⟩:=fy hl
   obtain⟨g,rfl,_⟩:=key hl hr i0 (List.mem_append_left _ G4)
   refine⟨fun h0=>(by rw[h0]at Y5;cases Y5),fun j hj=>?_⟩
   simp_all
  ·intro hp
   simp only[da,Bool.and_eq_true]at hp
   exact fun i hi=>key hp.1.2 hp.2 i hi
def Down.start(ops:Array Oper):Down ops (Array.replicate ops.size false):=by
 refine⟨by simp,fun i hi h=>?_⟩
 simp[hi]at h
def Wx{id:Nat}{ops:Array Oper}(S:World→Prop)(cZ:Pt)(hm:P.follows .mixedOrders=true)(LX:Region.noSelect ops=true)(hp:(xo ops && (Nat.ble cZ.depth ops.size && da ops true cZ (Array.replicate ops.size false)))=true)(hS:∀w,Sat G w H→S w)(h:J P f n R G S ops (db ops cZ) k L H):K P f n R G (.code (.region id ops true)::k) L H :=
 aao fun a w ha hw=>by
  simp only[Bool.and_eq_true]at hp
  have kF:Sat G { w with drawn:=w.drawn+1 } H:=hw.draw _
  exact wpIn_region_any hm (pD _ _ _ _ ((Cv (fun _ _ _ h=>h) LX hp.1 cZ ops.size _ a _ (Down.start ops) (Nat.le_of_ble_eq_true hp.2.1) (fun _=>hS _ kF) (h a _ ha kF (Sx.of (hS _ kF)))).1 hp.2.2))
inductive abU where
 | mk (k:List Item)
def fz:Nat→List Item→abU
 | 0,k => .mk k
 | i+1,k=>match k with
  | .code .skip::k'=>fz i k'
  | .code (.label _)::k'=>fz i k'
  | .inBlock _::k'=>fz i k'
  | .code (.seq a b)::k'=>fz i (.code a :: .code b::k')
  | .code (.block id b)::k'=>fz i (.code b :: .inBlock id::k')
  | .code (.exit id)::k'=>match exitTo id k' with
   | some k''=>fz i k''
   | none => .mk k
  | _ => .mk k
def eF(i:Nat):∀ {k k':List Item},fz i k = .mk k'→K P f n R G k' L H→K P f n R G k L H:=by
 induction i with
 | zero=>intro k k' h hk;simp only[fz]at h;cases h;exact hk
 | succ i ih =>
  intro k k' h hk
  simp only[fz]at h
  split at h
  ·exact lj (fun a cs w=>stepR_skip) (ih h hk)
  ·exact lj (fun a cs w=>stepR_label) (ih h hk)
  ·exact lj (fun a cs w=>stepR_inBlock) (ih h hk)
  ·exact lj (fun a cs w=>stepR_seq) (ih h hk)
  ·exact lj (fun a cs w=>stepR_block) (ih h hk)
  ·split at h
   ·rename_i hx;exact lj (fun a cs w=>stepR_exit hx) (ih h hk)
   ·cases h;exact hk
  ·cases h;exact hk
def zG{c:Operand}{t e:Code}{b:Bool}(hc:ev L c=some (.bool b))(ht:b=true→K P f n R G (.code t::k) L H)(he:b=false→K P f n R G (.code e::k) L H) :
  K P f n R G (.code (.cond c t e)::k) L H:=by
 intro a w ha hw cs
 have hs:=stepR_cond (P:=P) (b:=({ (default:Frame)with fn:=f,kind := .normal,roundOf:=G.ro }:Frame)) (k:=k) (cs:=cs) (w:=w) (x:=t) (y:=e) (ha.ev hc)
 cases b with
 | true=>exact(ht rfl a w ha hw cs).of_steps (.one hs)
 | false=>exact(he rfl a w ha hw cs).of_steps (.one hs)
def aH{k0:List Item}{id:Nat}{ops:Array Oper}(hk:fz 1000 k0 = .mk (.code (.region id ops false)::k))(h:J P f n R G (fun _=>True) ops (items ops.toList) k L H):K P f n R G k0 L H :=
 eF 1000 hk (Ll h)
def aJ{k0:List Item}{id:Nat}{ops:Array Oper}(S:World→Prop)(cZ:Pt)(hk:fz 1000 k0 = .mk (.code (.region id ops true)::k))(hm:P.follows .mixedOrders=true)(LX:Region.noSelect ops=true)(hp:(xo ops && (Nat.ble cZ.depth ops.size && da ops true cZ (Array.replicate ops.size false)))=true)(hS:∀w,Sat G w H→S w)(h:J P f n R G S ops (db ops cZ) k L H):K P f n R G k0 L H:=eF 1000 hk (Wx S cZ hm LX hp hS h)
def dj{k0:List Item}{c:Operand}{t e:Code}{b:Bool}(hk:fz 1000 k0 = .mk (.code (.cond c t e)::k))(hc:ev L c=some (.bool b))(ht:b=true→K P f n R G (.code t::k) L H)(he:b=false→K P f n R G (.code e::k) L H):K P f n R G k0 L H:=eF 1000 hk (zG hc ht he)
def zF{k0:List Item}{c:Operand}{t e:Code}(hk:fz 1000 k0 = .mk (.code (.cond c t e)::k))(hc:ev L c=some (.bool true))(h:K P f n R G (.code t::k) L H):K P f n R G k0 L H:=eF 1000 hk (zG hc (fun _=>h) (fun h=>by cases h))
def iU{k0:List Item}{c:Operand}{t e:Code}(hk:fz 1000 k0 = .mk (.code (.cond c t e)::k))(hc:ev L c=some (.bool false))(h:K P f n R G (.code e::k) L H):K P f n R G k0 L H:=eF 1000 hk (zG hc (fun h=>by cases h) (fun _=>h))
def au{k0:List Item}{c:Operand}{t e:Code}{p:Prop}[Decidable p](hk:fz 1000 k0 = .mk (.code (.cond c t e)::k))(hc:ev L c=some (.bool (decide p)))(ht:p→K P f n R G (.code t::k) L H)(he:¬p→K P f n R G (.code e::k) L H):K P f n R G k0 L H :=
 eF 1000 hk (zG hc (fun h=>ht (of_decide_eq_true h)) (fun h=>he (of_decide_eq_false h)))
def bn{α:Type}{k0:List Item}{c:Code}(I:α→Prop)(μ:α→Nat)(Lf:α→dS)(Hf:α→List HP)(x0:α)(h0:I x0)(hk:fz 1000 k0 = .mk (.code (.loop c)::k))(hL:∀t v,cR (Lf x0) t=some v→cR L t=some v)(hH:ao H (Hf x0))(round:∀x,I x→(∀y,I y→μ y < μ x→K P f n R G (.inLoop c::k) (Lf y) (Hf y))→K P f n R G (.code c :: .inLoop c::k) (Lf x) (Hf x)):K P f n R G k0 L H:=by
 have key:∀m x,I x→μ x=m→K P f n R G (.code c :: .inLoop c::k) (Lf x) (Hf x):=by
  intro m
  induction m using Nat.strongRecOn with
  | _ m ih =>
   intro x hI hx
   refine round x hI fun y hy cq=>lj (fun a cs w=>stepR_inLoop) (ih (μ y) (hx ▸ cq) y hy rfl)
 exact eF 1000 hk (lj (fun a cs w=>stepR_loop) (FL hL (ak hH (key _ x0 h0 rfl))))
def aK{α:Type}{I:α→Prop}{c:Code}{k0:List Item}{Lf:α→dS}{Hf:α→List HP}{q:α→Prop}(ih:∀y,I y→q y→K P f n R G (.inLoop c::k) (Lf y) (Hf y))(y:α)(hk:fz 1000 k0 = .mk (.inLoop c::k))(hI:I y)(hq:q y)(hL:∀t v,cR (Lf y) t=some v→cR L t=some v)(hH:ao H (Hf y)):K P f n R G k0 L H :=
 eF 1000 hk (FL hL (ak hH (ih y hI hq)))
def vP(L:dS):List ResultVar→List Value→HQ
 | [],acc=>za acc []
 | .tmp t::xs,acc=>match cR L t with
  | some v=>vP L xs (v::acc)
  | none => .no
 | .cell _ _::_,_ => .no
def dz:List Value→Value
 | [v]=>v
 | vs => .tuple vs.toArray
def yF(tmps:Array Value):ResultVar→Sem Value
 | .tmp t=>pure (tmps.getD t undef)
 | .cell a t=>do loadVar t (← asAddr (tmps.getD a undef))
def lV(fn:Func)(tmps:Array Value):results fn tmps=(fn.results.mapM (yF tmps) >>= fun vs=>pure (if h:vs.size=1 then vs[0]else .tuple vs)):=by
 unfold results
 congr 1
def Ji{a:Act}(ha:Has n L a)(xs:List ResultVar)(acc vs:List Value)(h:vP L xs acc = .mk vs)(w:World) :
  ∃us,vs=acc.reverse++us∧(xs.mapM (m:=Sem) (yF a.tmps)).run P w = .ok us w:=by
 induction xs generalizing acc with
 | nil=>have:=oC _ _ _ h;exact⟨[],by simpa using this,rfl⟩
 | cons x xs ih =>
  cases x with
  | cell p t=>cases h
  | tmp t =>
   simp only[vP]at h
   split at h
   ·rename_i v hv
    obtain⟨us,LU,oJ⟩:=ih _ h
    refine⟨v::us,by rw[LU];simp,?_⟩
    have hg:a.tmps.getD t undef=v:=by simp[Array.getD_eq_getD_getElem?,ha.2.2 t v hv]
    simp only[List.mapM_cons,yF,Sem.run_bind,Sem.run_pure,hg,Result.andThen_ok,oJ]
   ·cases h
def rM{a:Act}{fn:Func}(ha:Has n L a)(vs:List Value)(h:vP L fn.results.toList [] = .mk vs)(w:World):(results fn a.tmps).run P w = .ok (dz vs) w:=by
 obtain⟨us,LU,oJ⟩:=Ji (P:=P) ha fn.results.toList [] vs h w
 simp only[List.reverse_nil,List.nil_append]at LU
 subst LU
 rw[lV,Array.mapM_eq_mapM_toList]
 simp only[Sem.run_bind,Sem.run_map,oJ,Result.andThen_ok,Sem.run_pure]
 congr 1
 match vs with
 | []=>rfl
 | [v]=>rfl
 | v::u::vs=>simp[dz]
def nz(ds:List Nat):∀(fr:Frame) (cs:List Frame) (w:World),fr.mode = .returning→fr.defers=ds.map mark→(∃F,Sat G w (ds.map (fun r=>ag r (.deferred (some [])))++F)∧F=H) →
  ∃w',Sat G w' H∧Steps P (lone fr cs w) (lone { fr with defers:=[] } cs w'):=by
 induction ds with
 | nil =>
  rintro fr cs w hm hd⟨F,hw,rfl⟩
  refine⟨w,hw,?_⟩
  have:({ fr with defers:=[] }:Frame)=fr:=by simp only[List.map_nil]at hd;rw[← hd]
  rw[this];exact .refl P _
 | cons r ds ih =>
  rintro fr cs w hm hd⟨F,hw,rfl⟩
  have hg:w.heap[r]?=some (.deferred (some [])):=hw.get (i:=0) rfl
  have hk:(Instr.takeDeferred r).run P w = .ok [] { w with heap:=w.heap.setIfInBounds r (.deferred none) }:=by
   have h1:(getObj r).run P w = .ok (.deferred (some [])) w:=by simp[getObj,Sem.run,hg]
   have h2:(setObj r (.deferred none)).run P w = .ok () { w with heap:=w.heap.setIfInBounds r (.deferred none) }:=by simp[setObj,Sem.run,hg]
   simp[Instr.takeDeferred,Sem.run_bind,h1,h2,Result.andThen]
  have hs:=step_collected (P:=P) (cs:=cs) (fr:=fr) (by rw[hm];simp) hd rfl hk
  have kF:Sat G { w with heap:=w.heap.setIfInBounds r (.deferred none) } (ds.map (fun r=>ag r (.deferred (some [])))++F):=hw.yA.cn (ao.drop _ _)
  obtain⟨w',h1,h2⟩:=ih { fr with defers:=[]++ds.map mark } cs _ hm rfl ⟨F,kF,rfl⟩
  exact⟨w',h1,(Steps.trans (.one hs) h2)⟩
def Ow{fn:Func}(GP:G.ro=none)(hf:P.funcs[f]?=some fn)(vs:List Value)(hr:vP L fn.results.toList [] = .mk vs){H':List HP}(he:ao H (G.ds.map (fun r=>ag r (.deferred (some [])))++H'))(h:∀w,Sat G w H'→R (.returned (dz vs)) w):K P f n R G (.code .ret::k) L H:=by
 intro a w ha hw cs
 rw[GP]
 obtain⟨w',kF,hs⟩:=nz (P:=P) G.ds { bf none f a (.code .ret::k)with mode := .returning } cs w rfl ha.2 ⟨H',hw.cn he,rfl⟩
 exact⟨_,w',_,h w' kF,Steps.trans (.one (stepR_ret rfl)) hs,rfl,rfl,rfl,rfl,fn,hf,rM ha.1 vs hr w'⟩
def Ww{fn:Func}(GP:G.ro=none)(hf:P.funcs[f]?=some fn)(vs:List Value)(hr:vP L fn.results.toList [] = .mk vs){H':List HP}(he:ao H (G.ds.map (fun r=>ag r (.deferred (some [])))++H'))(h:∀w,Sat G w H'→R (.returned (dz vs)) w):K P f n R G [] L H:=by
 intro a w ha hw cs
 rw[GP]
 obtain⟨w',kF,hs⟩:=nz (P:=P) G.ds { bf none f a []with mode := .returning } cs w rfl ha.2 ⟨H',hw.cn he,rfl⟩
 exact⟨_,w',_,h w' kF,Steps.trans (.one (stepR_end rfl)) hs,rfl,rfl,rfl,rfl,fn,hf,rM ha.1 vs hr w'⟩
end
def ix(fn:Func):Bool:=fn.body.isSome && !(fn.name == "runtime.NumGoroutine")
def aq(P:Program)(f:FuncId)(args:List Value)(Pre:List HP)(Post:Value→List HP→Prop):Prop :=
 (P.funcs[f]?.map ix=some true) ∧
 ∀G w F,Sat G w (Pre++F)→Calls P f args.toArray w fun e w'=>∃v H,e = .returned v∧Post v H∧Sat G w' (H++F)
def Ends(R:Ending→World→Prop)(G:bY)(F:List HP)(Post:Value→List HP→Prop):Prop :=
 (G.ro=none∧G.ds=[])∧∀v H w,Post v H→Sat G w (H++F)→R (.returned v) w
inductive abT where
 | mk (L:dS)
def JE:Nat→List Value→dS→abT
 | _,[],L => .mk L
 | i,v::vs,L=>JE (i+1) vs ((i,v)::L)
theorem Ho(vs:List Value):∀(i:Nat) (L0 L:dS),JE i vs L0 = .mk L→∀t v,cR L t=some v→(i≤t∧vs[t-i]?=some v)∨cR L0 t=some v:=by
 induction vs with
 | nil=>intro i L0 L h t v hv;simp only[JE]at h;cases h;exact .inr hv
 | cons u vs ih =>
  intro i L0 L h t v hv
  rcases ih (i+1) _ L h t v hv with⟨h1,h2⟩|h2
  ·grind
  ·simp only[cR]at h2
   cases hb:Nat.beq i t with
   | true =>
    simp_all
   | false =>
    grind
theorem aq.enter{P:Program}{f:FuncId}{fn:Func}{c:Code}{n:Nat}{args:List Value}{L:dS}{Pre:List HP}{Post:Value→List HP→Prop}(hf:P.funcs[f]?=some fn)(hc:ix fn=true)(hb:fn.body=some c)(hn:fn.ntmps=n)(hp:JE 0 args [] = .mk L)(hlen:Nat.ble args.length n=true)(h:∀G F R,Ends R G F Post→K P f n R G [.code c] L (Pre++F)):aq P f args Pre Post:=by
 refine⟨by rw[hf];simp[hc],fun G w F hw cs=>?_⟩
 have ab0:=Nat.le_of_ble_eq_true hlen
 have hk:=h { G with ro:=none,ds:=[] } F (fun e w'=>∃v H,e = .returned v∧Post v H∧Sat G w' (H++F)) ⟨⟨rfl,rfl⟩,fun v H w' hp hs=>⟨v,H,rfl,hp,hs⟩⟩
 have ha:Has n L { tmps:=args.toArray++Array.replicate (n-args.toArray.size) undef,defers:=[] }:=by
  refine⟨by simp;omega,trivial,fun t v hv=>?_⟩
  rcases Ho args 0 [] L hp t v hv with⟨_,h2⟩|h2
  ·grind
  ·cases h2
 have DM:Frame.enter P f args.toArray .normal=bf none f { tmps:=args.toArray++Array.replicate (n-args.toArray.size) undef,defers:=[] } [.code c]:=by
  simp[Frame.enter,Frame.atR,bf,hf,hb,hn]
 rw[DM]
 exact hk _ w ⟨ha,rfl⟩ hw cs
def aG{P:Program}{f:FuncId}{n:Nat}{R:Ending→World→Prop}{G:bY}{k k0:List Item}{L:dS}{H:List HP}{fn:Func}{F:List HP}{Post:Value→List HP→Prop}(hR:Ends R G F Post)(hf:P.funcs[f]?=some fn)(hk:fz 1000 k0 = .mk (.code .ret::k))(vs:List Value)(hr:vP L fn.results.toList [] = .mk vs){Hq:List HP}(hp:Post (dz vs) Hq)(he:ao H (Hq++F)):K P f n R G k0 L H :=
 eF 1000 hk (Ow hR.1.1 hf vs hr (by rw[hR.1.2];exact he) fun w hw=>hR.2 _ _ w hp hw)
def bB{P:Program}{f:FuncId}{n:Nat}{R:Ending→World→Prop}{G:bY}{k0:List Item}{L:dS}{H:List HP}{fn:Func}{F:List HP}{Post:Value→List HP→Prop}(hR:Ends R G F Post)(hf:P.funcs[f]?=some fn)(hk:fz 1000 k0 = .mk [])(vs:List Value)(hr:vP L fn.results.toList [] = .mk vs){Hq:List HP}(hp:Post (dz vs) Hq)(he:ao H (Hq++F)):K P f n R G k0 L H :=
 eF 1000 hk (Ww hR.1.1 hf vs hr (by rw[hR.1.2];exact he) fun w hw=>hR.2 _ _ w hp hw)
def lM{P:Program}{f:FuncId}{n:Nat}{R:Ending→World→Prop}{G:bY}{ds:List Nat}{k k0:List Item}{L:dS}{H:List HP}{fn:Func}{F:List HP}{Post:Value→List HP→Prop}(hR:Ends R G F Post)(hf:P.funcs[f]?=some fn)(hk:fz 1000 k0 = .mk (.code .ret::k))(vs:List Value)(hr:vP L fn.results.toList [] = .mk vs){Hq:List HP}(hp:Post (dz vs) Hq)(he:ao H (ds.map (fun r=>ag r (.deferred (some [])))++(Hq++F))):K P f n R { G with ds:=ds } k0 L H :=
 eF 1000 hk (Ow hR.1.1 hf vs hr he fun w hw=>hR.2 _ _ w hp hw)
theorem ao.fin{H pre rest F:List HP}(is:List Nat)(m:Nat)(h:pU is [] H [] = .mk pre rest)(hd:rest.drop m=F):ao H (pre++F):=by
 refine(ao.pick is h).trans ?_
 have jz:∀(m:Nat) (l:List HP),ao l (l.drop m):=by
  intro m
  induction m with
  | zero=>exact fun l=>ao.refl _
  | succ m ih =>
   intro l
   cases l with
   | nil=>exact ao.refl _
   | cons A l=>exact(ao.drop A l).trans (ih l)
 subst hd
 intro h hs
 have:=j7 hs
 obtain⟨h',s,N4⟩:=ng (jz m rest) this
 grind [gZ]
def cM:Nat→Nat→Pt→Pt
 | _,0,p=>p
 | a,n+1,p => .st a (cM (a+1) n p)
end Go.SL
namespace Go.SL
structure Ty where
 eH:TypeDesc
 info:TypeInfo
inductive Tr where
 | leaf
 | node (k:Nat) (v:Ty) (l r:Tr)
def Tr.get:Tr→Nat→Option Ty
 | .leaf,_=>none
 | .node k v l r,t=>bif Nat.beq t k then some v else bif Nat.blt t k then l.get t else r.get t
def Tr.Good(P:Program):Tr→Prop
 | .leaf=>True
 | .node k v l r=>(P.underlying k=some v.eH∧P.info? k=some v.info)∧l.Good P∧r.Good P
class er (P:Program) (U:outParam Tr):Prop where
 uJ:U.Good P
def Tr.Bn{P:Program}{U:Tr}(h:U.Good P)(t:Nat)(ty:Ty)(hg:U.get t=some ty):P.underlying t=some ty.eH∧P.info? t=some ty.info:=by
 induction U with
 | leaf=>simp[Tr.get]at hg
 | node k v l r ihl ihr =>
  simp only[Tr.get]at hg
  cases hb:Nat.beq t k with
  | true =>
   have:=Nat.eq_of_beq_eq_true hb
   subst this
   simp only[hb,cond_true]at hg
   cases hg
   exact h.1
  | false =>
   simp only[hb,cond_false]at hg
   cases hl:Nat.blt t k with
   | true=>simp only[hl,cond_true]at hg;exact ihl h.2.1 hg
   | false=>simp only[hl,cond_false]at hg;exact ihr h.2.2 hg
section
variable{P:Program}{U:Tr}[hU:er P U]
def ib{t:Nat}{ty:Ty}(h:U.get t=some ty):P.underlying t=some ty.eH:=(Tr.Bn hU.uJ t ty h).1
def MD{t:Nat}{ty:Ty}(h:U.get t=some ty):P.info? t=some ty.info:=(Tr.Bn hU.uJ t ty h).2
def run_underlying{t:Nat}{ty:Ty}(h:U.get t=some ty)(w:World):(underlying t).run P w = .ok ty.eH w:=by
 simp[underlying,ib (P:=P) h]
def run_typeInfo{t:Nat}{ty:Ty}(h:U.get t=some ty)(w:World):(typeInfo t).run P w = .ok ty.info w:=by
 simp[typeInfo,MD (P:=P) h]
def run_sizeOf{t:Nat}{ty:Ty}(h:U.get t=some ty)(w:World):(sizeOf t).run P w = .ok ty.info.size w:=by
 simp[sizeOf,run_typeInfo h]
def Ty.isAgg(ty:Ty):Bool:=match ty.eH with
 | .struct _=>true
 | .array _ _=>true
 | _=>false
def om{t:Nat}{ty:Ty}(h:U.get t=some ty)(w:World):(isAgg t).run P w = .ok ty.isAgg w:=by
 simp only[isAgg,Sem.run_bind,run_underlying h,Result.andThen_ok,Ty.isAgg]
 cases ty.eH <;> rfl
def cS{t:Nat}{ty:Ty}{z:Value}(h:U.get t=some ty)(hz:ty.info.zero=some z)(w:World):(zeroValue t).run P w = .ok z w:=by
 simp[zeroValue,run_typeInfo h,hz]
end
def bS{α:Type}:List α→Nat→Option α
 | [],_=>none
 | x::_,0=>some x
 | _::l,i+1=>bS l i
def cK{α:Type}(l:List α)(i:Nat):bS l i=l[i]? := by
 induction l generalizing i with
 | nil=>simp[bS]
 | cons x l ih=>cases i <;> simp[bS,ih]
def NX:IntKind→Nat
 | .i8=>0 | .i16=>1 | .i32=>2 | .i64=>3 | .u8=>4 | .u16=>5 | .u32=>6 | .u64=>7
def MC{j k:IntKind}(h:Nat.beq (NX j) (NX k)=true):j=k:=by
 cases j <;> cases k <;> first|rfl|(revert h;decide)
def Oq(a b:ByteArray):Bool:=a.data.toList == b.data.toList
def YC(a b:ByteArray):Bool:=Op.bytesLess a.data.toList b.data.toList
def iG:BinOp→Int→Int→Option Bool
 | .eql,a,b=>some (decide (a=b))
 | .neq,a,b=>some (decide (a≠b))
 | .lss,a,b=>some (decide (a<b))
 | .leq,a,b=>some (decide (a≤b))
 | .gtr,a,b=>some (decide (b<a))
 | .geq,a,b=>some (decide (b≤a))
 | _,_,_=>none
def aac:BinOp→ByteArray→ByteArray→Option Bool
 | .eql,a,b=>some (Oq a b)
 | .neq,a,b=>some (!(Oq a b))
 | .lss,a,b=>some (YC a b)
 | .leq,a,b=>some (YC a b || Oq a b)
 | .gtr,a,b=>some (!(YC a b || Oq a b))
 | .geq,a,b=>some (!(YC a b))
 | _,_,_=>none
def KT:BinOp→IntKind→Int→Int→Option Int
 | .and,k,a,b=>some (k.wrap ((BitVec.ofInt k.bits a &&& BitVec.ofInt k.bits b).toNat:Int))
 | .or,k,a,b=>some (k.wrap ((BitVec.ofInt k.bits a ||| BitVec.ofInt k.bits b).toNat:Int))
 | .xor,k,a,b=>some (k.wrap ((BitVec.ofInt k.bits a ^^^ BitVec.ofInt k.bits b).toNat:Int))
 | .andNot,k,a,b=>some (k.wrap ((BitVec.ofInt k.bits a &&& ~~~ BitVec.ofInt k.bits b).toNat:Int))
 | _,_,_,_=>none
def Ov(op:BinOp)(k:IntKind)(a b:Int):Option Int:=bif Nat.beq (NX k) 6 then none else KT op k a b
def xQ:TypeDesc→Value→Value→Option Bool
 | .pointer _,.pointer none,.pointer none=>some true
 | .pointer _,.pointer none,.pointer (some _)=>some false
 | .pointer _,.pointer (some _),.pointer none=>some false
 | .slice _,.slice none _ _,.slice none _ _=>some true
 | .slice _,.slice (some _) _ _,.slice none _ _=>some false
 | .slice _,.slice none _ _,.slice (some _) _ _=>some false
 | .map _ _,.map none,.map none=>some true
 | .map _ _,.map (some _),.map none=>some false
 | .map _ _,.map none,.map (some _)=>some false
 | .func _ _ _,.nilFunc,.nilFunc=>some true
 | .func _ _ _,.func _ _ _,.nilFunc=>some false
 | .func _ _ _,.nilFunc,.func _ _ _=>some false
 | .bool,.bool a,.bool b=>some (a == b)
 | _,_,_=>none
def eqV(U:Tr)(op:BinOp)(t:TypeId)(x y:Value):Option Bool :=
 match op with
 | .eql=>match U.get t with
  | some ty=>xQ ty.eH x y
  | none=>none
 | .neq=>match U.get t with
  | some ty=>match xQ ty.eH x y with
   | some b=>some (!b)
   | none=>none
  | none=>none
 | _=>none
def aX:Value→List Value
 | .agg cs=>cs.toList
 | v=>[v]
theorem cN(v:Value):v.cells=(aX v).toArray:=by cases v <;> simp[Value.cells,aX]
def k6:List Value→Nat→List Value→List Value→HQ
 | acc,_,z,[]=>za acc z
 | acc,0,_::z,v::vs=>k6 (v::acc) 0 z vs
 | acc,i+1,x::z,v::vs=>k6 (x::acc) i z (v::vs)
 | _,_,[],_::_ => .no
theorem EV(vs:List Value):∀(acc:List Value) (i:Nat) (z r:List Value),k6 acc i z vs = .mk r→i+vs.length≤z.length+(if vs=[]then i else 0)∧(vs≠[]→r=acc.reverse++(z.take i++vs++z.drop (i+vs.length)))∧(vs=[]→r=acc.reverse++z):=by
 have gen:∀(z vs acc:List Value) (i:Nat) (r:List Value),k6 acc i z vs = .mk r→i+vs.length≤z.length+(if vs=[]then i else 0)∧(vs≠[]→r=acc.reverse++(z.take i++vs++z.drop (i+vs.length)))∧(vs=[]→r=acc.reverse++z):=by
  intro z
  induction z with
  | nil =>
   intro vs acc i r h
   cases vs with
   | nil=>cases i <;> (simp only[k6]at h;have:=oC _ _ _ h;simp[this])
   | cons v vs=>cases i <;> simp[k6]at h
  | cons x z ih =>
   intro vs acc i r h
   cases vs with
   | nil=>cases i <;> (simp only[k6]at h;have:=oC _ _ _ h;simp[this])
   | cons v vs =>
    cases i with
    | zero =>
     grind [k6]
    | succ i =>
     grind [k6]
 grind
def u0(U:Tr)(L:dS)(fs:List Field):List Value→List (Nat × Operand)→Option Value
 | z,[]=>some (.agg z.toArray)
 | z,(i,x)::ps=>match bS fs i,ev L x with
  | some fd,some v=>match U.get fd.type with
   | some ft=>bif Nat.beq (aX v).length 0 then none else bif Nat.beq (aX v).length ft.info.size then
     (match k6 [] fd.offset z (aX v)with
     | .mk z'=>u0 U L fs z' ps
     | .no=>none)else none
   | none=>none
  | _,_=>none
def BH(U:Tr):List Field→Bool
 | []=>true
 | f::fs=>match U.get f.type with
  | some _=>BH U fs
  | none=>false
def gO(U:Tr)(op:Op)(L:dS):Option Value :=
 match op with
 | .move x=>ev L x
 | .assign x=>ev L x
 | .nilCheck x=>match ev L x with
  | some (.pointer (some a))=>some (.pointer (some a))
  | some (.func (.func f) fi cap)=>some (.func (.func f) fi cap)
  | _=>none
 | .fieldAddr s x f=>match U.get s,ev L x with
  | some ty,some (.pointer (some ⟨b,o,none⟩))=>match ty.eH with
   | .struct fs=>match bS fs.toList f with
    | some fd=>match U.get fd.type with
     | some ft=>bif Nat.beq ft.info.size 0 then none else some (.pointer (some ⟨b,o+fd.offset,none⟩))
     | none=>none
    | none=>none
   | _=>none
  | _,_=>none
 | .field s x f=>match U.get s,ev L x with
  | some ty,some (.agg cs)=>match ty.eH with
   | .struct fs=>match bS fs.toList f with
    | some fd=>match U.get fd.type with
     | some ft=>bif ft.isAgg then some (.agg (cs.extract fd.offset (fd.offset+ft.info.size)))else bS cs.toList fd.offset
     | none=>none
    | none=>none
   | _=>none
  | _,_=>none
 | .extract x i=>match ev L x with
  | some (.tuple vs)=>bS vs.toList i
  | _=>none
 | .binOp op t x y _=>match ev L x,ev L y with
  | some (.int j a),some (.int k b)=>bif Nat.beq (NX j) (NX k)then
    (match iG op a b with
    | some c=>some (.bool c)
    | none=>match Ov op j a b with
     | some c=>some (.int j c)
     | none=>none)else none
  | some (.string a),some (.string b)=>match aac op a b with
   | some c=>some (.bool c)
   | none=>none
  | some u,some v=>match eqV U op t u v with
   | some c=>some (.bool c)
   | none=>none
  | _,_=>none
 | .unOp op _ x=>match op,ev L x with
  | .not,some (.bool b)=>some (.bool (!b))
  | _,_=>none
 | .makeFunc fn first captured=>match Cr L first.toList [],Cr L captured.toList []with
  | .mk fs,.mk cs=>some (.func fn fs.toArray cs.toArray)
  | _,_=>none
 | .build t parts=>match U.get t with
  | some ty=>match ty.eH,ty.info.zero with
   | .struct fs,some (.agg z)=>bif BH U fs.toList then u0 U L fs.toList z.toList parts.toList else none
   | _,_=>none
  | none=>none
 | .convert src dst x=>match U.get src,U.get dst,ev L x with
  | some s,some d,some (.string v)=>match s.eH,d.eH with
   | .string,.string=>some (.string v)
   | _,_=>none
  | _,_,_=>none
 | .call c=>match c.callee with
  | .builtin .len=>match c.argTypes.toList,c.args.toList with
   | [t],[x]=>match U.get t,ev L x with
    | some ty,some (.slice _ n _)=>match ty.eH with
     | .slice _=>some (.int .i64 n)
     | _=>none
    | some ty,some (.string s)=>match ty.eH with
     | .string=>some (.int .i64 s.size)
     | _=>none
    | _,_=>none
   | _,_=>none
  | .builtin .max=>match c.args.toList with
   | [x,y]=>match ev L x,ev L y with
    | some (.int k a),some (.int _ b)=>some (.int k (max a b))
    | _,_=>none
   | _=>none
  | .builtin .min=>match c.args.toList with
   | [x,y]=>match ev L x,ev L y with
    | some (.int k a),some (.int _ b)=>some (.int k (min a b))
    | _,_=>none
   | _=>none
  | _=>none
 | _=>none
section
variable{P:Program}{U:Tr}[hU:er P U]{n:Nat}{L:dS}{a:Act}
def pQ{d:Nat}{t:TypeId}{ty:Ty}{x y:Value}{b:Bool}(h:U.get t=some ty)(he:xQ ty.eH x y=some b)(w:World) :
  (Op.equalIn (d+1) t x y).run P w = .ok b w:=by
 unfold Op.equalIn
 simp only[Sem.run_bind,run_underlying h,Result.andThen_ok]
 unfold xQ at he
 split at he <;> first|(cases he;done)|skip
 all_goals(cases he;rename_i hu _ _;first|rw[hu]|skip)
 all_goals simp_all
theorem Np{a b:ByteArray}:Oq a b=true↔a=b:=by
 unfold Oq
 constructor
 ·intro h
  have h1:a.data.toList=b.data.toList:=by simpa using h
  cases a;cases b;simp at h1;rw[h1]
 grind
def aah(p q:Int):(p == q)=decide (p=q):=by rw[Bool.eq_iff_iff];simp
def yJ{op:BinOp}{t yt:TypeId}{x y:Operand}{v:Value}{d:Option Tmp}{ty:TypeId}{pos:String}{af:Array Edge}{gd:Option (Nat × Bool)}(h:gO U (.binOp op t x y yt) L=some v)(ha:Has n L a)(w:World):(execOp a.eval ⟨d,.binOp op t x y yt,ty,pos,af,gd⟩).run P w = .ok (.value v) w:=by
 simp only[gO]at h
 split at h
 ·rename_i j p k q hx hy
  have ex:=ha.ev hx
  have ey:=ha.ev hy
  have hg:(eqGuard op t x y (.int j p) (.int k q)).run P w = .ok () w:=by
   unfold eqGuard;split <;> simp
  cases hk:Nat.beq (NX j) (NX k)with
  | false=>simp[hk]at h
  | true =>
   have:=MC hk
   subst this
   simp only[hk,cond_true]at h
   simp only[execOp,Sem.run_bind,ex,ey,hg,Result.andThen_ok]
   cases h6:Nat.beq (NX j) 6 <;> cases op <;> simp only[iG,Ov,KT,h6,cond_true,cond_false]at h <;> cases h <;>
    simp[binOp,Op.intCmp,Op.intBits,bne,aah]
 ·rename_i s1 s2 hx hy
  have ex:=ha.ev hx
  have ey:=ha.ev hy
  have hg:(eqGuard op t x y (.string s1) (.string s2)).run P w = .ok () w:=by
   unfold eqGuard;split <;> simp
  simp only[execOp,Sem.run_bind,ex,ey,hg,Result.andThen_ok]
  cases op <;> simp only[aac]at h <;> cases h <;>
   simp[binOp,Op.stringOp,Oq,YC,ByteArray.toList_eq]
 ·rename_i u v' hni LX hx hy
  have ex:=ha.ev hx
  have ey:=ha.ev hy
  split at h
  ·rename_i c hc
   cases h
   simp only[execOp,Sem.run_bind,ex,ey]
   unfold eqV at hc
   split at hc
   ·split at hc
    ·rename_i bH ht
     have hr:=pQ (P:=P) (d:=9999) ht hc w
     unfold xQ at hc
     split at hc <;> first|(cases hc;done)|(simp[eqGuard,binOp,Op.equal,Op.maxDepth,hr];done)
    ·cases hc
   ·split at hc
    ·rename_i bH ht
     split at hc
     ·rename_i b hb
      have hr:=pQ (P:=P) (d:=9999) ht hb w
      cases hc
      unfold xQ at hb
      split at hb <;> first|(cases hb;done)|(simp[eqGuard,binOp,Op.equal,Op.maxDepth,hr];done)
     ·cases hc
    ·cases hc
   ·cases hc
  ·cases h
 ·cases h
theorem xL(vc:List Value):∀(i off:Nat) (cs:Array Value),off+i+vc.length≤cs.size →
  ((vc.toArray.zipIdx i).foldl (fun cs (x:Value × Nat)=>cs.setIfInBounds (off+x.2) x.1) cs).toList=cs.toList.take (off+i)++vc++cs.toList.drop (off+i+vc.length):=by
 induction vc with
 | nil =>
  intro i off cs _
  have:(([]:List Value).toArray.zipIdx i) = #[]:=by apply Array.ext';simp
  rw[this];simp
 | cons v vc ih =>
  intro i off cs h
  have h1:((v::vc).toArray.zipIdx i) = #[(v,i)]++vc.toArray.zipIdx (i+1):=by
   grind
  simp only[List.length_cons]at h
  rw[h1,Array.foldl_append]
  simp only[List.foldl_toArray,List.foldl_cons,List.foldl_nil]
  rw[ih (i+1) off _ (by simp;omega)]
  have h2:(cs.setIfInBounds (off+i) v).toList=cs.toList.set (off+i) v:=by simp
  rw[h2]
  have cq:off+i<cs.toList.length:=by simp;omega
  rw[List.set_eq_take_append_cons_drop,if_pos cq]
  rw[show off+(i+1)=off+i+1 by omega]
  have e1:(List.take (off+i) cs.toList++v::List.drop (off+i+1) cs.toList).take (off+i+1)=List.take (off+i) cs.toList++[v]:=by
   grind
  have e2:(List.take (off+i) cs.toList++v::List.drop (off+i+1) cs.toList).drop (off+i+1+vc.length)=List.drop (off+i+(v::vc).length) cs.toList:=by
   rw[List.drop_append]
   simp only[List.length_take,List.length_cons]
   rw[show min (off+i) cs.toList.length=off+i by omega]
   rw[List.drop_of_length_le (by simp;omega)]
   rw[show off+i+1+vc.length-(off+i)=vc.length+1 by omega]
   simp[show off+i+1+vc.length=off+i+(vc.length+1) by omega]
  grind
def qL(U:Tr)(t:TypeId):Nat:=match U.get t with
 | some ft=>ft.info.size
 | none=>0
def run_places(fs:List Field)(h:BH U fs=true)(w:World) :
  (fs.mapM (m:=Sem) fun f=>do pure (f.offset,← sizeOf f.type)).run P w = .ok (fs.map fun f=>(f.offset,qL U f.type)) w:=by
 induction fs with
 | nil=>rfl
 | cons f fs ih =>
  simp only[BH]at h
  split at h
  ·rename_i ft Cp
   simp only[List.mapM_cons,Sem.run_bind,run_sizeOf Cp,Result.andThen_ok,Sem.run_pure,ih h,List.map_cons,qL,Cp]
  ·cases h
theorem BB(ha:Has n L a)(fs:List Field)(ps:List (Nat × Operand)):∀(z:List Value) (v:Value),u0 U L fs z ps=some v →
  ∃r,v = .agg r∧Instr.fill (fun i=>((fs.map fun f=>(f.offset,qL U f.type)).toArray)[i]?) z.toArray (ps.map fun x=>(x.1,a.eval x.2))=some r:=by
 induction ps with
 | nil=>intro z v h;simp only[u0]at h;cases h;exact⟨_,rfl,rfl⟩
 | cons p ps ih =>
  obtain⟨i,x⟩:=p
  intro z v h
  simp only[u0]at h
  split at h
  ·rename_i fd u VX hu
   split at h
   ·rename_i ft Cp
    cases Bj:Nat.beq (aX u).length 0 with
    | true=>simp[Bj]at h
    | false =>
    simp only[Bj,cond_false]at h
    cases hb:Nat.beq (aX u).length ft.info.size with
    | false=>simp[hb]at h
    | true =>
     simp only[hb,cond_true]at h
     split at h
     ·rename_i z' YE
      obtain⟨r,hv,hr⟩:=ih z' v h
      refine⟨r,hv,?_⟩
      rw[cK]at VX
      simp only[List.map_cons,Instr.fill,ha.ev hu]
      have VB:((fs.map fun f=>(f.offset,qL U f.type)).toArray)[i]?=some (fd.offset,ft.info.size):=by
       grind [qL]
      simp only[VB]
      have hlen:(aX u).length=ft.info.size:=Nat.eq_of_beq_eq_true hb
      obtain⟨h1,h2,_⟩:=EV _ _ _ _ _ YE
      have iF:u.cells.size=ft.info.size:=by rw[cN];simpa using hlen
      by_cases he:aX u=[]
      ·grind
      ·have h4:=h2 he
       simp only[he,if_false,Nat.add_zero]at h1
       rw[if_neg (by simp[iF];rw[← hlen];exact h1)]
       have:=xL (aX u) 0 fd.offset z.toArray (by simpa using h1)
       simp only[Nat.add_zero]at this
       have e:((aX u).toArray.zipIdx.foldl (fun cs (x:Value × Nat)=>cs.setIfInBounds (fd.offset+x.2) x.1) z.toArray)=z'.toArray:=by
        grind
       grind [cN,aX]
     ·cases h
   ·cases h
  ·cases h
theorem yI{op:Op}{v:Value}{d:Option Tmp}{ty:TypeId}{pos:String}{af:Array Edge}{gd:Option (Nat × Bool)}(h:gO U op L=some v)(ha:Has n L a)(w:World):(execOp a.eval ⟨d,op,ty,pos,af,gd⟩).run P w = .ok (.value v) w:=by
 cases op with
 | binOp op t x y yt=>exact yJ h ha w
 | move x=>simp only[gO]at h;simp[execOp,ha.ev h]
 | assign x=>simp only[gO]at h;simp[execOp,ha.ev h]
 | nilCheck x =>
  simp only[gO]at h
  split at h
  ·rename_i hx;cases h;simp[execOp,ha.ev hx]
  ·rename_i hx;cases h;simp[execOp,ha.ev hx]
  ·cases h
 | fieldAddr s x f =>
  simp only[gO]at h
  split at h
  ·rename_i bH b o hs hx
   split at h
   ·rename_i fs Bb
    split at h
    ·rename_i fd VX
     split at h
     ·rename_i ft Cp
      cases hz:Nat.beq ft.info.size 0 with
      | true=>simp[hz]at h
      | false =>
       simp only[hz,cond_false]at h
       cases h
       rw[cK]at VX
       have Iy:fs[f]?=some fd:=by simpa using VX
       have fy:ft.info.size≠0:=Nat.ne_of_beq_eq_false hz
       simp only[execOp,ha.ev hx,Instr.fieldAt,Sem.run_bind,run_underlying hs,Result.andThen_ok,Bb,Iy,Instr.sureAddr,Sem.run_pure,fieldPlace,run_sizeOf Cp]
       rw[if_neg fy]
       simp only[Sem.run_pure,Result.andThen_ok,Addr.add]
       grind
     ·cases h
    ·cases h
   ·cases h
  ·cases h
 | field s x f =>
  simp only[gO]at h
  split at h
  ·rename_i bH cs hs hx
   split at h
   ·rename_i fs Bb
    split at h
    ·rename_i fd VX
     split at h
     ·rename_i ft Cp
      rw[cK]at VX
      have Iy:fs[f]?=some fd:=by simpa using VX
      simp only[execOp,ha.ev hx,Instr.field,Sem.run_bind,run_underlying hs,Result.andThen_ok,Bb,Iy,asAgg,Sem.run_pure,part,om Cp]
      cases hg:ft.isAgg with
      | true =>
       simp only[hg,cond_true]at h
       cases h
       simp[run_sizeOf Cp]
      | false =>
       simp only[hg,cond_false,cK]at h
       simp_all
     ·cases h
    ·cases h
   ·cases h
  ·cases h
 | extract x i =>
  simp only[gO]at h
  split at h
  ·rename_i vs hx
   rw[cK]at h
   have h':vs[i]?=some v:=by simpa using h
   simp[execOp,ha.ev hx,Instr.extract,h']
  ·cases h
 | unOp op t x =>
  simp only[gO]at h
  split at h
  ·rename_i b hx;cases h;simp[execOp,ha.ev hx,Op.unary]
  ·cases h
 | makeFunc fn first captured =>
  simp only[gO]at h
  split at h
  ·rename_i fs cs h1 h2
   cases h
   simp only[execOp,kJ ha _ _ h1,kJ ha _ _ h2,Instr.makeFunc,Sem.run_bind,Sem.run_pure,Result.andThen_ok]
  ·cases h
 | build t parts =>
  simp only[gO]at h
  split at h
  ·rename_i bH ht
   split at h
   ·rename_i fs z Bb hz
    cases rZ:BH U fs.toList with
    | false=>simp[rZ]at h
    | true =>
     simp only[rZ,cond_true]at h
     obtain⟨r,rfl,hr⟩:=BB ha _ _ _ _ h
     have hp:(fs.mapM (m:=Sem) fun f=>do pure (f.offset,← sizeOf f.type)).run P w = .ok (fs.toList.map fun f=>(f.offset,qL U f.type)).toArray w:=by
      rw[Array.mapM_eq_mapM_toList]
      simp only[Sem.run_map,run_places _ rZ,Result.andThen_ok]
     simp only[execOp,Instr.build,Sem.run_bind,cS ht hz,run_underlying ht,Result.andThen_ok,Bb]
     rw[hp]
     simp only[Result.andThen_ok,Value.cells,Array.toList_map]
     simp_all
   ·cases h
  ·cases h
 | convert src dst x =>
  simp only[gO]at h
  split at h
  ·rename_i s dd sv hs hd hx
   split at h
   ·rename_i h1 h2
    cases h
    simp[execOp,ha.ev hx,convert,run_underlying hs,run_underlying hd,h1,h2]
   ·cases h
  ·cases h
 | call c =>
  obtain⟨callee,args,argTypes⟩:=c
  simp only[gO]at h
  split at h
  ·split at h
   ·rename_i t x ht hx
    have e9:args = #[x]:=by apply Array.ext';simpa using hx
    have aaZ:argTypes = #[t]:=by apply Array.ext';simpa using ht
    subst e9;subst aaZ
    split at h
    ·rename_i bH a1 m1 c1 h1 h2
     split at h
     ·rename_i hu
      cases h
      simp[execOp,resolve,invoke,builtin,Builtin.len_,ha.ev h2,run_underlying h1,hu,goInt]
     ·cases h
    ·rename_i bH s1 h1 h2
     split at h
     ·rename_i hu
      cases h
      simp[execOp,resolve,invoke,builtin,Builtin.len_,ha.ev h2,run_underlying h1,hu,goInt]
     ·cases h
    ·cases h
   ·cases h
  ·split at h
   ·rename_i x y hx
    have e9:args = #[x,y]:=by apply Array.ext';simpa using hx
    subst e9
    split at h
    ·rename_i k p k' q h1 h2
     cases h
     simp only[execOp,resolve,invoke,builtin,Builtin.max_,Sem.run_bind,Sem.run_pure,Result.andThen_ok,List.map_toArray,List.map_cons,List.map_nil,ha.ev h1,ha.ev h2,List.foldlM_cons,List.foldlM_nil,Builtin.max2]
     grind
    ·cases h
   ·cases h
  ·split at h
   ·rename_i x y hx
    have e9:args = #[x,y]:=by apply Array.ext';simpa using hx
    subst e9
    split at h
    ·rename_i k p k' q h1 h2
     cases h
     simp only[execOp,resolve,invoke,builtin,Builtin.min_,Sem.run_bind,Sem.run_pure,Result.andThen_ok,List.map_toArray,List.map_cons,List.map_nil,ha.ev h1,ha.ev h2,List.foldlM_cons,List.foldlM_nil,Builtin.min2]
     grind
    ·cases h
   ·cases h
  ·cases h
 | _=>cases h
inductive abV where
 | mk (ab':Bool) (rest:Pl) (L:dS)
def K2(U:Tr)(n:Nat):Nat→Bool→Pl→dS→abV
 | 0,b,rest,L => .mk b rest L
 | i+1,b,rest,L=>match rest with
  | .cons _ true ⟨some d,op,_,_,_,_⟩ rs=>bif Nat.blt d n then
    (match gO U op L with
    | some v=>K2 U n i true rs ((d,v)::L)
    | none => .mk b rest L)else .mk b rest L
  | _ => .mk b rest L
end
section
variable{P:Program}{U:Tr}[hU:er P U]{f:FuncId}{n:Nat}{R:Ending→World→Prop}{G:bY}{k:List Item}{L:dS}{H:List HP}{S:World→Prop}{all:Array Oper}{rest:Pl}
def cJ{m:Bool}{d:Tmp}{op:Op}{ty:TypeId}{pos:String}{af:Array Edge}{gd:Option (Nat × Bool)}{v:Value}(hd:Nat.blt d n=true)(hv:∀a,Has n L a→∀w,(execOp a.eval ⟨some d,op,ty,pos,af,gd⟩).run P w = .ok (.value v) w)(h:J P f n R G S all rest k ((d,v)::L) H):J P f n R G S all (.cons m true ⟨some d,op,ty,pos,af,gd⟩ rest) k L H:=by
 intro a w ha hw hS
 have h1:=h _ w (ha.put hd v) hw (Sx.of hS)
 refine .inl ⟨.inl rfl,?_⟩
 cases m with
 | true=>exact .inl ⟨rfl,v,fun w _=>hv a ha.1 w,h1⟩
 | false =>
  refine .inr ⟨rfl,?_⟩
  exact fe (hv a ha.1 w) ⟨Sx.of hS,h1⟩
def WB(i:Nat):∀ {b b':Bool} {rest tT:Pl} {L L':dS},K2 U n i b rest L = .mk b' tT L'→J P f n R G S all tT k L' H→J P f n R G S all rest k L H:=by
 induction i with
 | zero=>intro b b' rest tT L L' h hj;simp only[K2]at h;cases h;exact hj
 | succ i ih =>
  intro b b' rest tT L L' h hj
  simp only[K2]at h
  split at h
  ·rename_i m d op ty pos af gd rs
   cases hd:Nat.blt d n with
   | false=>simp only[hd,cond_false]at h;cases h;exact hj
   | true =>
    simp only[hd,cond_true]at h
    split at h
    ·rename_i v hv
     exact cJ hd (fun a ha w=>yI hv ha w) (ih h hj)
    ·cases h;exact hj
  ·cases h;exact hj
def B5{tT:Pl}{L':dS}(h:K2 U n 1000 false rest L = .mk true tT L')(hj:J P f n R G S all tT k L' H):J P f n R G S all rest k L H :=
 WB 1000 h hj
end
end Go.SL
namespace Go.SL
inductive aan where
 | mk (H:List HP)
 | no
def No:List HP→List HP→aan
 | [],l => .mk l
 | x::acc,l=>No acc (x::l)
def jk:Nat→HP→List HP→List HP→aan
 | _,_,[],_ => .no
 | 0,A,_::l,acc=>No acc (A::l)
 | i+1,A,B::l,acc=>jk i A l (B::acc)
def Nn(acc l r:List HP)(h:No acc l = .mk r):r=acc.reverse++l:=by
 induction acc generalizing l with
 | nil=>simp[No]at h;simp[h]
 | cons x acc ih=>have:=ih (x::l) h;simp[this]
theorem lX(i:Nat)(A B:HP)(H acc r:List HP)(h:jk i A H acc = .mk r)(hB:bS H i=some B):r.Perm (A::(acc.reverse++H.eraseIdx i)):=by
 induction H generalizing i acc with
 | nil=>cases i <;> simp[jk]at h
 | cons C l ih =>
  cases i with
  | zero =>
   simp only[jk]at h
   rw[Nn _ _ _ h]
   simp_all
  | succ i =>
   grind [jk,bS]
def Sat.put{G:bY}{w:World}{H H':List HP}{i:Nat}{b:Nat}{o o':Obj}(hs:Sat G w H)(hi:bS H i=some (ag b o))(hp:jk i (ag b o') H [] = .mk H') :
  Sat G { w with heap:=w.heap.setIfInBounds b o' } H':=by
 have h1:=hs.set (o':=o') (i:=i) (by rw[← cK];exact hi)
 have h2:=lX i _ _ H [] H' hp hi
 exact h1.cn (ao.perm (by simpa using h2.symm))
def cG(h:Hp)(b off:Nat):Option Value:=match h b with
 | some (.cells c _ _)=>c[off]?
 | _=>none
def Vw(A:HP)(v:Value)(n:Nat)(cs:List Value):Prop :=
 ∃a cap,v = .slice a n cap∧(cs=[]∨∃b o,a=some ⟨b,o,none⟩∧∀h,A h→∀j c,cs[j]?=some c→cG h b (o+j)=some c)
def aI(e:TypeId)(size:Nat)(v:Value)(n:Nat)(cs:List Value):HP:=fun h =>
 cs.length=n*size∧((∃a,v = .slice a 0 0∧n=0∧emp h) ∨
  ∃b o cap pre bL,v = .slice (some ⟨b,o,none⟩) n cap∧pre.length=o∧n≤cap∧cap*size≤cs.length+bL.length∧ag b (cl (pre++cs++bL) e) h)
theorem fA{h:Hp}{w:World}{b off:Nat}{v:Value}(hw:∀b o,h b=some o→w.heap[b]?=some o)(hc:cG h b off=some v):w.cell? ⟨b,off,none⟩=some v:=by
 unfold cG at hc
 split at hc
 ·rename_i c e fr hb
  simp[World.cell?,hw b _ hb,hc]
 ·cases hc
def Sat.jG{G:bY}{w:World}{H:List HP}(hs:Sat G w H){i:Nat}{A:HP}(hi:bS H i=some A):∃h:Hp,(∀b o,h b=some o→w.heap[b]?=some o)∧A h:=by
 rw[cK]at hi
 exact(hs.cn (ao.perm (ct hi))).head
theorem Sat.qa{G:bY}{w:World}{H:List HP}(hs:Sat G w H){i:Nat}{b:Nat}{o:Obj}(hi:bS H i=some (ag b o)):w.heap[b]?=some o:=by
 rw[cK]at hi
 exact hs.get hi
def pK:List Value→Nat→Nat→List Value→HQ
 | l,0,0,acc=>let _:=l;za acc []
 | x::l,0,m+1,acc=>pK l 0 m (x::acc)
 | _::l,i+1,m,acc=>pK l i m acc
 | [],_,_,_ => .no
theorem Af:∀(l:List Value) (i m:Nat) (acc r:List Value),pK l i m acc = .mk r→r=acc.reverse++(l.drop i).take m∧i+m≤l.length:=by
 intro l
 induction l with
 | nil =>
  grind [pK,oC]
 | cons x l ih =>
  intro i m acc r h
  cases i with
  | zero=>cases m with
   | zero=>simp only[pK]at h;have:=oC _ _ _ h;simp[this]
   | succ m =>
    grind [pK]
  | succ i =>
   grind [pK]
section
variable{P:Program}{U:Tr}[hU:er P U]{f:FuncId}{n:Nat}{R:Ending→World→Prop}{G:bY}{k:List Item}{L:dS}{H H':List HP}{S:World→Prop}{all:Array Oper}{rest:Pl}{ty:TypeId}{pos:String}{af:Array Edge}{gd:Option (Nat × Bool)}{m:Bool}{d:Tmp}
def lN{op:Op}(hd:Nat.blt d n=true)(q:Value→List HP→Prop)(hv:∀a w,Has n L a→Sat G w H→∃v w' H',(execOp a.eval ⟨some d,op,ty,pos,af,gd⟩).run P w = .ok (.value v) w'∧q v H'∧Sat G w' H')(hS:∀v H' w,q v H'→Sat G w H'→Sx rest S w)(h:∀v H',q v H'→J P f n R G S all rest k ((d,v)::L) H'):J P f n R G S all (.cons false true ⟨some d,op,ty,pos,af,gd⟩ rest) k L H:=by
 intro a w ha hw _
 obtain⟨v,w',H',hr,hq,kF⟩:=hv a w ha.1 hw
 refine .inl ⟨.inl rfl,.inr ⟨rfl,?_⟩⟩
 exact fe hr ⟨hS v H' w' hq kF,h v H' hq _ w' (ha.put hd v) kF (hS v H' w' hq kF)⟩
def LD{op:Op}(q:List HP→Prop)(hv:∀a w,Has n L a→Sat G w H→∃w' H',(execOp a.eval ⟨none,op,ty,pos,af,gd⟩).run P w = .ok .skip w'∧q H'∧Sat G w' H')(hS:∀H' w,q H'→Sat G w H'→Sx rest S w)(h:∀H',q H'→J P f n R G S all rest k L H'):J P f n R G S all (.cons false true ⟨none,op,ty,pos,af,gd⟩ rest) k L H:=by
 intro a w ha hw _
 obtain⟨w',H',hr,hq,kF⟩:=hv a w ha.1 hw
 refine .inl ⟨.inl rfl,.inr ⟨rfl,?_⟩⟩
 exact wpIn_skip hr ⟨hS H' w' hq kF,h H' hq a w' ha kF (hS H' w' hq kF)⟩
def gV{op:Op}{v:Value}(hd:Nat.blt d n=true)(hv:∀a w,Has n L a→Sat G w H→(execOp a.eval ⟨some d,op,ty,pos,af,gd⟩).run P w = .ok (.value v) w)(h:J P f n R G S all rest k ((d,v)::L) H):J P f n R G S all (.cons false true ⟨some d,op,ty,pos,af,gd⟩ rest) k L H:=by
 intro a w ha hw hS
 refine .inl ⟨.inl rfl,.inr ⟨rfl,?_⟩⟩
 exact fe (hv a w ha.1 hw) ⟨Sx.of hS,h _ w (ha.put hd v) hw (Sx.of hS)⟩
def iX{op:Op}{v:Value}(hd:Nat.blt d n=true)(hv:∀a w,Has n L a→S w→(execOp a.eval ⟨some d,op,ty,pos,af,gd⟩).run P w = .ok (.value v) w)(h:J P f n R G S all rest k ((d,v)::L) H):J P f n R G S all (.cons true true ⟨some d,op,ty,pos,af,gd⟩ rest) k L H:=by
 intro a w ha hw hS
 exact .inl ⟨.inl rfl,.inl ⟨rfl,v,fun w hw=>hv a w ha.1 hw,h _ w (ha.put hd v) hw (Sx.of hS)⟩⟩
def lT{t:TypeId}{bH:Ty}{b off:Nat}{v:Value}{w:World}(ht:U.get t=some bH)(hg:bH.isAgg=false)(hc:w.cell? ⟨b,off,none⟩=some v) :
  (Instr.loadAt t (.pointer (some ⟨b,off,none⟩))).run P w = .ok v w:=by
 simp[Instr.loadAt,Instr.sureAddr,loadVar,om ht,hg,hc]
def dA{t:TypeId}{x:Operand}{b off:Nat}{bH:Ty}{l:List Value}{e:TypeId}{v:Value}(i:Nat)(hd:Nat.blt d n=true)(hx:ev L x=some (.pointer (some ⟨b,off,none⟩)))(hi:bS H i=some (ag b (cl l e)))(hv:bS l off=some v)(ht:U.get t=some bH)(hg:bH.isAgg=false)(h:J P f n R G S all rest k ((d,v)::L) H):J P f n R G S all (.cons false true ⟨some d,.load t x,ty,pos,af,gd⟩ rest) k L H :=
 gV hd (fun a w ha hw=>by
  have hc:w.cell? ⟨b,off,none⟩=some v:=by rw[cH (hw.qa hi),← cK];exact hv
  simp[execOp,ha.ev hx,lT ht hg hc]) h
def tj{t:TypeId}{x:Operand}{b off:Nat}{bH:Ty}{v:Value}(hd:Nat.blt d n=true)(hx:ev L x=some (.pointer (some ⟨b,off,none⟩)))(hv:∀w,S w→w.cell? ⟨b,off,none⟩=some v)(ht:U.get t=some bH)(hg:bH.isAgg=false)(h:J P f n R G S all rest k ((d,v)::L) H):J P f n R G S all (.cons true true ⟨some d,.load t x,ty,pos,af,gd⟩ rest) k L H :=
 iX hd (fun a w ha hS=>by simp[execOp,ha.ev hx,lT ht hg (hv w hS)]) h
def tk{t:TypeId}{x:Operand}{b off:Nat}{bH:Ty}{v:Value}(hd:Nat.blt d n=true)(hx:ev L x=some (.pointer (some ⟨b,off,none⟩)))(hv:∀w,Sat G w H→w.cell? ⟨b,off,none⟩=some v)(ht:U.get t=some bH)(hg:bH.isAgg=false)(h:J P f n R G S all rest k ((d,v)::L) H):J P f n R G S all (.cons false true ⟨some d,.load t x,ty,pos,af,gd⟩ rest) k L H :=
 gV hd (fun a w ha hS=>by simp[execOp,ha.ev hx,lT ht hg (hv w hS)]) h
def fH{Hs:List HP}{t:TypeId}{x:Operand}{b off:Nat}{bH:Ty}{l:List Value}{e:TypeId}{v:Value}(i:Nat)(hd:Nat.blt d n=true)(hx:ev L x=some (.pointer (some ⟨b,off,none⟩)))(hi:bS Hs i=some (ag b (cl l e)))(hv:bS l off=some v)(ht:U.get t=some bH)(hg:bH.isAgg=false)(h:J P f n R G (fun w=>Sat G w Hs) all rest k ((d,v)::L) H):J P f n R G (fun w=>Sat G w Hs) all (.cons true true ⟨some d,.load t x,ty,pos,af,gd⟩ rest) k L H :=
 tj (U:=U) hd hx (fun w hw=>by rw[cH (hw.qa hi),← cK];exact hv) ht hg h
def fK{t:TypeId}{bH:Ty}{b off:Nat}{cs:List Value}{w:World}(ht:U.get t=some bH)(hg:bH.isAgg=true)(hl:cs.length=bH.info.size)(hc:∀j v,cs[j]?=some v→w.cell? ⟨b,off+j,none⟩=some v) :
  (Instr.loadAt t (.pointer (some ⟨b,off,none⟩))).run P w = .ok (.agg cs.toArray) w:=by
 have h1:=run_loadCells_list (P:=P) w ⟨b,off,none⟩ cs (fun j v hj=>by
  have:=hc j v hj
  unfold Addr.add
  split
  ·rename_i h0;subst h0;simpa using this
  ·simpa using this)
 simp[Instr.loadAt,Instr.sureAddr,loadVar,om ht,hg,run_sizeOf ht,← hl,h1]
theorem H4{t:TypeId}{x:Operand}{b off:Nat}{bH:Ty}{l:List Value}{e:TypeId}{cs:List Value}(i:Nat)(hd:Nat.blt d n=true)(hx:ev L x=some (.pointer (some ⟨b,off,none⟩)))(hi:bS H i=some (ag b (cl l e)))(ht:U.get t=some bH)(hg:bH.isAgg=true)(hv:pK l off bH.info.size [] = .mk cs)(h:J P f n R G S all rest k ((d,.agg cs.toArray)::L) H):J P f n R G S all (.cons false true ⟨some d,.load t x,ty,pos,af,gd⟩ rest) k L H :=
 gV hd (fun a w ha hw=>by
  obtain⟨h1,h2⟩:=Af _ _ _ _ _ hv
  simp only[List.reverse_nil,List.nil_append]at h1
  have hc:∀j v,cs[j]?=some v→w.cell? ⟨b,off+j,none⟩=some v:=fun j v hj=>by
   rw[cH (hw.qa hi)]
   grind
  have:=fK (P:=P) ht hg (by rw[h1];simp;omega) hc
  simp[execOp,ha.ev hx,this]) h
theorem eO{b:Nat}{e:TypeId}:∀(vs:List Value) (i off:Nat) (l:List Value) (w:World),w.heap[b]?=some (cl l e)→off+i+vs.length≤l.length→(∀v∈vs,v.oneCell'=true) →
  (storeCells ⟨b,off,none⟩ vs i).run P w = .ok () { w with heap:=w.heap.setIfInBounds b (cl (l.take (off+i)++vs++l.drop (off+i+vs.length)) e) }
 | [],i,off,l,w,hb,_,_=>by
  have:w.heap.setIfInBounds b (cl l e)=w.heap:=by
   grind
  simp[storeCells,this]
 | v::vs,i,off,l,w,hb,hl,fT=>by
  simp only[List.length_cons]at hl
  have Bk:(⟨b,off,none⟩:Addr).add i=⟨b,off+i,none⟩:=by
   unfold Addr.add;split
   ·rename_i h0;subst h0;rfl
   ·rfl
  have cG:w.cell? ⟨b,off+i,none⟩=some (l[off+i]' ai):=by rw[cH hb];simp
  have h1:(store ((⟨b,off,none⟩:Addr).add i) v).run P w = .ok () { w with heap:=w.heap.setIfInBounds b (cl (l.set (off+i) v) e) }:=by
   rw[Bk,run_store P w _ v .plain (fT v (by simp))]
   grind [cG,jv,qM]
  have cq:b<w.heap.size:=by
   grind
  have ih:=eO (b:=b) (e:=e) vs (i+1) off (l.set (off+i) v) { w with heap:=w.heap.setIfInBounds b (cl (l.set (off+i) v) e) } (by simp[cq]) (by simp;omega) (fun u hu=>fT u (by simp[hu]))
  simp only[storeCells,Sem.run_bind,h1,Result.andThen_ok,ih]
  congr 1
  simp only[Array.setIfInBounds_setIfInBounds]
  congr 2
  have MR:off+i<l.length:=by omega
  rw[List.set_eq_take_append_cons_drop,if_pos MR]
  have e1:(List.take (off+i) l++v::List.drop (off+i+1) l).take (off+(i+1))=List.take (off+i) l++[v]:=by
   grind
  have e2:(List.take (off+i) l++v::List.drop (off+i+1) l).drop (off+(i+1)+vs.length)=List.drop (off+i+(vs.length+1)) l:=by
   rw[List.drop_append]
   simp only[List.length_take]
   rw[show min (off+i) l.length=off+i by omega,List.drop_of_length_le (by simp;omega)]
   rw[show off+(i+1)+vs.length-(off+i)=vs.length+1 by omega]
   simp[show off+i+1+vs.length=off+i+(vs.length+1) by omega]
  rw[e1,e2]
  simp
def gr:List Value→Bool
 | []=>true
 | v::vs=>v.oneCell' && gr vs
theorem sq{vs:List Value}(h:gr vs=true):∀v∈vs,v.oneCell'=true:=by
 induction vs with
 | nil=>intro v hv;cases hv
 | cons u vs ih =>
  grind [gr]
theorem rN{z r vs:List Value}{i:Nat}(h:k6 [] i z vs = .mk r)(hv:vs≠[]):r=z.take i++vs++z.drop (i+vs.length)∧i+vs.length≤z.length:=by
 obtain⟨h1,h2,_⟩:=EV _ _ _ _ _ h
 grind
def dv{t:TypeId}{x y:Operand}{b off:Nat}{bH:Ty}{l l':List Value}{e:TypeId}{v:Value}(i:Nat)(hS:∀w,Sat G w H'→Sx rest S w)(hx:ev L x=some (.pointer (some ⟨b,off,none⟩)))(hy:ev L y=some v)(ht:U.get t=some bH)(iF:Nat.beq (aX v).length bH.info.size=true)(fy:Nat.beq (aX v).length 0=false)(fT:gr (aX v)=true)(hi:bS H i=some (ag b (cl l e)))(hl:k6 [] off l (aX v) = .mk l')(hp:jk i (ag b (cl l' e)) H [] = .mk H')(h:J P f n R G S all rest k L H'):J P f n R G S all (.cons false true ⟨none,.store t x y,ty,pos,af,gd⟩ rest) k L H:=by
 refine LD (fun H1=>H1=H') (fun a w ha hw=>?_) (fun H1 w e hw=>hS w (e ▸ hw)) (fun H1 e=>e ▸ h)
 have lh:aX v≠[]:=fun e=>by rw[e]at fy;cases fy
 obtain⟨h1,h2⟩:=rN hl lh
 have hr:=eO (P:=P) (aX v) 0 off l w (hw.qa hi) (by simpa using h2) (sq fT)
 simp only[Nat.add_zero,← h1]at hr
 refine⟨_,H',?_,rfl,hw.put hi hp⟩
 have YU:v.cells.size=bH.info.size:=by rw[cN];simpa using Nat.eq_of_beq_eq_true iF
 have mF:v.cells.toList=aX v:=by rw[cN]
 simp only[execOp,ha.ev hx,ha.ev hy,Instr.storeAt,Instr.sureAddr,Sem.run_bind,Sem.run_pure,Result.andThen_ok,storeVar,run_sizeOf ht]
 simp_all
theorem bp{elem:TypeId}{x:Operand}{v:Value}(hd:Nat.blt d n=true)(hx:ev L x=some v)(hS:∀b w,Sat G w (ag b (cl (aX v) elem)::H)→Sx rest S w)(h:∀b,J P f n R G S all rest k ((d,.pointer (some ⟨b,0,none⟩))::L) (ag b (cl (aX v) elem)::H)) :
  J P f n R G S all (.cons false true ⟨some d,.box elem x,ty,pos,af,gd⟩ rest) k L H:=by
 refine lN hd (fun u H1=>∃b,u = .pointer (some ⟨b,0,none⟩)∧H1=ag b (cl (aX v) elem)::H) (fun a w ha hw=>?_) ?_ ?_
 ·refine⟨_,_,_,?_,⟨w.heap.size,rfl,rfl⟩,hw.alloc _⟩
  simp[execOp,ha.ev hx,Instr.box,newVar,newRow,cN,cl]
 ·grind
 grind
theorem NN{elem:TypeId}{bH:Ty}{z:Value}(hd:Nat.blt d n=true)(ht:U.get elem=some bH)(hz:bH.info.zero=some z)(hS:∀b w,Sat G w (ag b (cl (aX z) elem)::H)→Sx rest S w)(h:∀b,J P f n R G S all rest k ((d,.pointer (some ⟨b,0,none⟩))::L) (ag b (cl (aX z) elem)::H)) :
  J P f n R G S all (.cons false true ⟨some d,.alloc elem,ty,pos,af,gd⟩ rest) k L H:=by
 refine lN hd (fun u H1=>∃b,u = .pointer (some ⟨b,0,none⟩)∧H1=ag b (cl (aX z) elem)::H) (fun a w ha hw=>?_) ?_ ?_
 ·refine⟨_,_,_,?_,⟨w.heap.size,rfl,rfl⟩,hw.alloc _⟩
  simp[execOp,Instr.alloc,cS ht hz,newVar,newRow,cN,cl]
 ·grind
 grind
theorem dN{t:TypeId}(hd:Nat.blt d n=true)(hS:∀b w,Sat G w (ag b (.map #[] 0)::H)→Sx rest S w)(h:∀b,J P f n R G S all rest k ((d,.map (some b))::L) (ag b (.map #[] 0)::H)) :
  J P f n R G S all (.cons false true ⟨some d,.makeMap t none,ty,pos,af,gd⟩ rest) k L H:=by
 refine lN hd (fun u H1=>∃b,u = .map (some b)∧H1=ag b (.map #[] 0)::H) (fun a w ha hw=>?_) ?_ ?_
 ·refine⟨_,_,_,?_,⟨w.heap.size,rfl,rfl⟩,hw.alloc _⟩
  simp[execOp,Instr.makeMap]
 ·grind
 grind
def CV(z:List Value):Nat→List Value→List Value
 | 0,acc=>acc
 | i+1,acc=>CV z i (z++acc)
def rk(L:dS)(size:Nat):List Value→List (Nat × Operand)→HQ
 | z,[] => .mk z
 | z,(i,x)::ps=>match ev L x with
  | some v=>bif Nat.beq (aX v).length 0 then .no else bif Nat.beq (aX v).length size then
    (match k6 [] (i*size) z (aX v)with
    | .mk z'=>rk L size z' ps
    | .no => .no)else .no
  | none => .no
theorem sm{a:Act}(ha:Has n L a)(size:Nat)(ps:List (Nat × Operand)):∀(z r:List Value),rk L size z ps = .mk r →
  Instr.fill (fun i=>some (i*size,size)) z.toArray (ps.map fun x=>(x.1,a.eval x.2))=some r.toArray:=by
 induction ps with
 | nil=>intro z r h;simp only[rk]at h;cases h;rfl
 | cons p ps ih =>
  obtain⟨i,x⟩:=p
  intro z r h
  simp only[rk]at h
  split at h
  ·rename_i u hu
   cases Bj:Nat.beq (aX u).length 0 with
   | true=>simp[Bj]at h
   | false =>
   simp only[Bj,cond_false]at h
   cases hb:Nat.beq (aX u).length size with
   | false=>simp[hb]at h
   | true =>
    simp only[hb,cond_true]at h
    split at h
    ·rename_i z' YE
     have hr:=ih z' r h
     simp only[List.map_cons,Instr.fill,ha.ev hu]
     have hlen:(aX u).length=size:=Nat.eq_of_beq_eq_true hb
     have he:aX u≠[]:=fun e=>by rw[e]at Bj;cases Bj
     obtain⟨h4,h1⟩:=rN YE he
     have iF:u.cells.size=size:=by rw[cN];simpa using hlen
     rw[if_neg (by simp[iF];rw[← hlen];rw[← hlen]at h1;exact h1)]
     have:=xL (aX u) 0 (i*size) z.toArray (by simpa using h1)
     simp only[Nat.add_zero]at this
     have e:((aX u).toArray.zipIdx.foldl (fun cs (x:Value × Nat)=>cs.setIfInBounds (i*size+x.2) x.1) z.toArray)=z'.toArray:=by
      grind
     rw[cN]
     grind
    ·cases h
  ·cases h
theorem wu{t elem:TypeId}{bH te:Ty}{z:Value}{len:Nat}{parts:Array (Nat × Operand)}{cs:List Value}(hd:Nat.blt d n=true)(ht:U.get t=some bH)(hu:bH.eH = .slice elem)(he:U.get elem=some te)(hz:te.info.zero=some z)(iF:Nat.beq (aX z).length te.info.size=true)(sD:Nat.blt 0 te.info.size=true)(yZ:Nat.ble (len*te.info.size) 16777216=true)(hb:rk L te.info.size (CV (aX z) len []) parts.toList = .mk cs)(hS:∀b w,Sat G w (ag b (cl cs elem)::H)→Sx rest S w)(h:∀b,J P f n R G S all rest k ((d,.slice (some ⟨b,0,none⟩) len len)::L) (ag b (cl cs elem)::H)) :
  J P f n R G S all (.cons false true ⟨some d,.buildSlice t len parts,ty,pos,af,gd⟩ rest) k L H:=by
 have YU:(aX z).length=te.info.size:=Nat.eq_of_beq_eq_true iF
 have Y6:0<te.info.size:=by simpa[Nat.blt_eq]using sD
 have Vy:∀(i:Nat) (acc:List Value),CV (aX z) i acc=(List.replicate i (aX z)).flatten++acc:=by
  intro i
  induction i with
  | zero=>intro acc;simp[CV]
  | succ i ih =>
   intro acc
   rw[CV,ih]
   rw[List.replicate_succ']
   simp
 have abl:((Array.range (len*te.info.size)).map fun i=>z.cells[i%z.cells.size]!)=(CV (aX z) len []).toArray:=by
  apply Array.ext'
  rw[Vy]
  simp only[Array.toList_map,Array.toList_range,List.append_nil]
  have jA:z.cells.size=te.info.size:=by rw[cN];simpa using YU
  rw[jA]
  clear yZ hb h hS
  induction len with
  | zero=>simp
  | succ len ih =>
   rw[List.replicate_succ',List.flatten_append,← ih]
   rw[Nat.succ_mul,List.range_add,List.map_append]
   congr 1
   simp only[List.map_map,List.flatten_cons,List.flatten_nil,List.append_nil]
   apply List.ext_getElem?
   intro j
   by_cases hj:j<te.info.size
   ·simp only[List.getElem?_map,List.getElem?_range hj,Option.map_some,Function.comp]
    rw[Nat.mul_comm,Nat.mul_add_mod,Nat.mod_eq_of_lt hj]
    grind [cN,aX]
   grind
 refine lN hd (fun u H1=>∃b,u = .slice (some ⟨b,0,none⟩) len len∧H1=ag b (cl cs elem)::H) (fun a w ha hw=>?_) ?_ ?_
 ·refine⟨_,_,_,?_,⟨w.heap.size,rfl,rfl⟩,hw.alloc _⟩
  have hf:=sm ha _ _ _ _ hb
  have hle:¬len*te.info.size>2 ^ 24:=by have:=Nat.le_of_ble_eq_true yZ;omega
  simp only[execOp,Instr.buildSlice,Sem.run_bind,run_underlying ht,Result.andThen_ok,hu,run_sizeOf he,if_neg hle,Sem.run_pure]
  by_cases h0:len*te.info.size=0
  ·have VO:len=0:=by
    rcases Nat.eq_zero_or_pos len with h|h
    ·exact h
    ·exact absurd h0 (Nat.ne_of_gt (Nat.mul_pos h Y6))
   subst VO
   have ZC:Instr.fill (fun i=>some (i*te.info.size,te.info.size)) #[] (parts.toList.map fun x=>(x.1,a.eval x.2))=some cs.toArray:=by simpa[CV]using hf
   have A7:((Array.range 0).map fun i=>(#[]:Array Value)[i%(#[]:Array Value).size]!) = #[]:=by simp
   simp only[Nat.zero_mul,if_true,pure_bind,A7,Array.toList_map]
   rw[show(List.map (fun x:Nat × Operand=>match x with|(i,x)=>(i,a.eval x)) parts.toList)=parts.toList.map (fun x=>(x.1,a.eval x.2))from rfl,ZC]
   simp[newRow,cl]
  ·simp only[if_neg h0,Sem.run_bind,cS he hz,Sem.run_pure,Result.andThen_ok,abl,Array.toList_map]
   rw[show(List.map (fun x:Nat × Operand=>match x with|(i,x)=>(i,a.eval x)) parts.toList)=parts.toList.map (fun x=>(x.1,a.eval x.2))from rfl,hf]
   simp[newRow,cl]
 ·grind
 grind
def FN{o:Oper}(h:J P f n R G S all (.cons m false o rest) k L H):J P f n R G S all (.cons m false o rest) k L H:=h
def qs{c x y:Operand}(h:J P f n R G S all (.cons m true ⟨some d,.pick c x y,ty,pos,af,gd⟩ rest) k L H):J P f n R G S all (.cons m true ⟨some d,.pick c x y,ty,pos,af,gd⟩ rest) k L H:=h
def mu{op:BinOp}{t t':TypeId}{x y:Operand}(h:J P f n R G S all (.cons m true ⟨some d,.binOp op t x y t',ty,pos,af,gd⟩ rest) k L H):J P f n R G S all (.cons m true ⟨some d,.binOp op t x y t',ty,pos,af,gd⟩ rest) k L H:=h
def aT{t:TypeId}{x:Operand}(h:J P f n R G S all (.cons m true ⟨some d,.load t x,ty,pos,af,gd⟩ rest) k L H):J P f n R G S all (.cons m true ⟨some d,.load t x,ty,pos,af,gd⟩ rest) k L H:=h
def aY{t:TypeId}{x y:Operand}(h:J P f n R G S all (.cons m true ⟨none,.store t x y,ty,pos,af,gd⟩ rest) k L H):J P f n R G S all (.cons m true ⟨none,.store t x y,ty,pos,af,gd⟩ rest) k L H:=h
def gF{t t':TypeId}{x:Operand}(h:J P f n R G S all (.cons m true ⟨some d,.convert t t' x,ty,pos,af,gd⟩ rest) k L H):J P f n R G S all (.cons m true ⟨some d,.convert t t' x,ty,pos,af,gd⟩ rest) k L H:=h
def qu{o:Oper}{j t:Nat}{oj:Oper}{b:Bool}(hg:o.guard=some (j,b))(hj:bS all.toList j=some oj)(ht:oj.dst=some t)(hb:cR L t=some (.bool b))(h:J P f n R G S all (.cons m true o rest) k L H):J P f n R G S all (.cons m false o rest) k L H:=by
 intro a w ha hw hS
 have h1:=h a w ha hw (Sx.of hS)
 have nC:all[j]?=some oj:=by rw[cK]at hj;simpa using hj
 have kF:Region.wanted o (yielded all a.tmps)=true:=by
  simp only[Region.wanted,hg,yielded,nC,Option.bind_some,ht,ha.get hb]
  simp
 rcases h1 with⟨_,h1⟩|⟨hf,_⟩
 ·exact .inl ⟨.inr kF,h1⟩
 ·cases hf
theorem qv{o:Oper}{j t:Nat}{oj:Oper}{b c:Bool}(hd:o.dst=some d)(lO:Nat.blt d n=true)(hg:o.guard=some (j,b))(hj:bS all.toList j=some oj)(ht:oj.dst=some t)(hb:cR L t=some (.bool c))(hbc:(c == b)=false)(h:J P f n R G S all rest k ((d,undef)::L) H):J P f n R G S all (.cons m false o rest) k L H:=by
 intro a w ha hw hS
 have nC:all[j]?=some oj:=by rw[cK]at hj;simpa using hj
 have kF:Region.wanted o (yielded all a.tmps)=false:=by
  simp only[Region.wanted,hg,yielded,nC,Option.bind_some,ht,ha.get hb]
  grind
 exact .inr ⟨rfl,kF,by rw[hd];exact h _ w (ha.put lO undef) hw (Sx.of hS)⟩
theorem oH{o:Oper}{j t:Nat}{oj:Oper}{b c:Bool}(hd:o.dst=none)(hg:o.guard=some (j,b))(hj:bS all.toList j=some oj)(ht:oj.dst=some t)(hb:cR L t=some (.bool c))(hbc:(c == b)=false)(h:J P f n R G S all rest k L H):J P f n R G S all (.cons m false o rest) k L H:=by
 intro a w ha hw hS
 have nC:all[j]?=some oj:=by rw[cK]at hj;simpa using hj
 have kF:Region.wanted o (yielded all a.tmps)=false:=by
  simp only[Region.wanted,hg,yielded,nC,Option.bind_some,ht,ha.get hb]
  grind
 exact .inr ⟨rfl,kF,by rw[hd];exact h a w ha hw (Sx.of hS)⟩
def qt{o:Oper}{j t:Nat}{oj:Oper}{b:Bool}(hd:o.dst=some d)(lO:Nat.blt d n=true)(hg:o.guard=some (j,b))(hj:bS all.toList j=some oj)(ht:oj.dst=some t)(hb:cR L t=some undef)(h:J P f n R G S all rest k ((d,undef)::L) H):J P f n R G S all (.cons m false o rest) k L H:=by
 intro a w ha hw hS
 have nC:all[j]?=some oj:=by rw[cK]at hj;simpa using hj
 have kF:Region.wanted o (yielded all a.tmps)=false:=by
  simp only[Region.wanted,hg,yielded,nC,Option.bind_some,ht,ha.get hb,undef]
  rfl
 exact .inr ⟨rfl,kF,by rw[hd];exact h _ w (ha.put lO undef) hw (Sx.of hS)⟩
def sY{c x y:Operand}{v:Value}(hd:Nat.blt d n=true)(hc:ev L c=some (.bool true))(hx:ev L x=some v)(h:J P f n R G S all rest k ((d,v)::L) H):J P f n R G S all (.cons m true ⟨some d,.pick c x y,ty,pos,af,gd⟩ rest) k L H :=
 cJ hd (fun a ha w=>by simp[execOp,ha.ev hc,ha.ev hx,asBool]) h
def sZ{c x y:Operand}{v:Value}(hd:Nat.blt d n=true)(hc:ev L c=some (.bool false))(hy:ev L y=some v)(h:J P f n R G S all rest k ((d,v)::L) H):J P f n R G S all (.cons m true ⟨some d,.pick c x y,ty,pos,af,gd⟩ rest) k L H :=
 cJ hd (fun a ha w=>by simp[execOp,ha.ev hc,ha.ev hy,asBool]) h
def NJ(t:Nat){b:Bool}(hb:cR L t=some (.bool b))(ht:b=true→J P f n R G S all rest k ((t,.bool true)::L) H)(hf:b=false→J P f n R G S all rest k ((t,.bool false)::L) H) :
  J P f n R G S all rest k L H:=by
 have hs:∀c:Bool,b=c→∀s v,cR ((t,.bool c)::L) s=some v→cR L s=some v:=by
  rintro c rfl s v e
  simp only[cR]at e
  cases dD:Nat.beq t s with
  | true=>simp only[dD,cond_true]at e;rw[← Nat.eq_of_beq_eq_true dD,hb];exact e
  | false=>simpa only[dD,cond_false]using e
 cases b with
 | true=>exact Ln (hs true rfl) (ht rfl)
 | false=>exact Ln (hs false rfl) (hf rfl)
def Lo(t:Nat){p:Prop}[Decidable p](hb:cR L t=some (.bool (decide p)))(ht:p→J P f n R G S all rest k ((t,.bool true)::L) H)(hf:¬p→J P f n R G S all rest k ((t,.bool false)::L) H) :
  J P f n R G S all rest k L H:=NJ t hb (fun h=>ht (of_decide_eq_true h)) (fun h=>hf (of_decide_eq_false h))
def dw{o:Oper}{j t:Nat}{oj:Oper}{p:Prop}[Decidable p]{b:Bool}(hg:o.guard=some (j,b))(hj:bS all.toList j=some oj)(ht:oj.dst=some t)(hb:cR L t=some (.bool (decide p)))(h1:p→J P f n R G S all (.cons m false o rest) k ((t,.bool true)::L) H)(h2:¬p→J P f n R G S all (.cons m false o rest) k ((t,.bool false)::L) H):J P f n R G S all (.cons m false o rest) k L H:=Lo t hb h1 h2
def aD(t:Nat){u:Value}(v:Value)(hb:cR L t=some u)(huv:u=v)(h:J P f n R G S all rest k ((t,v)::L) H):J P f n R G S all rest k L H:=by
 subst huv
 refine Ln (fun s x e=>?_) h
 simp only[cR]at e
 cases dD:Nat.beq t s with
 | true=>simp only[dD,cond_true]at e;rw[← Nat.eq_of_beq_eq_true dD,hb];exact e
 | false=>simpa only[dD,cond_false]using e
def aV(t:Nat){u:Value}(v:Value)(hb:cR L t=some u)(huv:u=v)(h:K P f n R G k ((t,v)::L) H):K P f n R G k L H:=by
 subst huv
 refine FL (fun s x e=>?_) h
 simp only[cR]at e
 cases dD:Nat.beq t s with
 | true=>simp only[dD,cond_true]at e;rw[← Nat.eq_of_beq_eq_true dD,hb];exact e
 | false=>simpa only[dD,cond_false]using e
def gm:IntKind→Int→Prop
 | .i8,x => -128≤x∧x≤127
 | .i16,x => -32768≤x∧x≤32767
 | .i32,x => -2147483648≤x∧x≤2147483647
 | .i64,x => -9223372036854775808≤x∧x≤9223372036854775807
 | .u8,x=>0≤x∧x≤255
 | .u16,x=>0≤x∧x≤65535
 | .u32,x=>0≤x∧x≤4294967295
 | .u64,x=>0≤x∧x≤18446744073709551615
theorem cT{j:IntKind}{x:Int}(h:gm j x):j.wrap x=x:=by
 cases j <;> simp only[gm]at h <;> simp[IntKind.wrap,IntKind.bits,IntKind.signed] <;> (try split) <;> omega
def B6{t yt:TypeId}{x y:Operand}{j:IntKind}{p q:Int}(hd:Nat.blt d n=true)(hx:ev L x=some (.int j p))(hy:ev L y=some (.int j q))(hr:gm j (p+q))(h:J P f n R G S all rest k ((d,.int j (p+q))::L) H):J P f n R G S all (.cons m true ⟨some d,.binOp .add t x y yt,ty,pos,af,gd⟩ rest) k L H :=
 cJ hd (fun a ha w=>by simp[execOp,ha.ev hx,ha.ev hy,eqGuard,binOp,Op.intArith,cT hr]) h
def zI{t yt:TypeId}{x y:Operand}{j:IntKind}{p q:Int}(hd:Nat.blt d n=true)(hx:ev L x=some (.int j p))(hy:ev L y=some (.int j q))(hr:gm j (p-q))(h:J P f n R G S all rest k ((d,.int j (p-q))::L) H):J P f n R G S all (.cons m true ⟨some d,.binOp .sub t x y yt,ty,pos,af,gd⟩ rest) k L H :=
 cJ hd (fun a ha w=>by simp[execOp,ha.ev hx,ha.ev hy,eqGuard,binOp,Op.intArith,cT hr]) h
def hG{t yt:TypeId}{x y:Operand}{j:IntKind}{p q:Int}(hd:Nat.blt d n=true)(hx:ev L x=some (.int j p))(hy:ev L y=some (.int j q))(hr:gm j (p*q))(h:J P f n R G S all rest k ((d,.int j (p*q))::L) H):J P f n R G S all (.cons m true ⟨some d,.binOp .mul t x y yt,ty,pos,af,gd⟩ rest) k L H :=
 cJ hd (fun a ha w=>by simp[execOp,ha.ev hx,ha.ev hy,eqGuard,binOp,Op.intArith,cT hr]) h
def LC{t yt:TypeId}{x y:Operand}{j:IntKind}{p q:Int}(hd:Nat.blt d n=true)(hx:ev L x=some (.int j p))(hy:ev L y=some (.int j q))(h:J P f n R G S all rest k ((d,.int j (j.wrap (p+q)))::L) H):J P f n R G S all (.cons m true ⟨some d,.binOp .add t x y yt,ty,pos,af,gd⟩ rest) k L H :=
 cJ hd (fun a ha w=>by simp[execOp,ha.ev hx,ha.ev hy,eqGuard,binOp,Op.intArith]) h
def Lt{t yt:TypeId}{x y:Operand}{j:IntKind}{p q:Int}(hd:Nat.blt d n=true)(hx:ev L x=some (.int j p))(hy:ev L y=some (.int j q))(h:J P f n R G S all rest k ((d,.int j (j.wrap (p*q)))::L) H):J P f n R G S all (.cons m true ⟨some d,.binOp .mul t x y yt,ty,pos,af,gd⟩ rest) k L H :=
 cJ hd (fun a ha w=>by simp[execOp,ha.ev hx,ha.ev hy,eqGuard,binOp,Op.intArith]) h
def sw{t yt:TypeId}{x y:Operand}{j:IntKind}{p q:Int}(hd:Nat.blt d n=true)(hx:ev L x=some (.int j p))(hy:ev L y=some (.int j q))(hp:0≤p)(hq:0<q)(h:J P f n R G S all rest k ((d,.int j (p%q))::L) H):J P f n R G S all (.cons m true ⟨some d,.binOp .rem t x y yt,ty,pos,af,gd⟩ rest) k L H :=
 cJ hd (fun a ha w=>by
  have h0:¬q=0:=by omega
  simp[execOp,ha.ev hx,ha.ev hy,eqGuard,binOp,Op.intDiv,h0,Int.tmod_eq_emod_of_nonneg hp]) h
def sx{t yt:TypeId}{x y:Operand}{j:IntKind}{p q:Int}(hd:Nat.blt d n=true)(hx:ev L x=some (.int j p))(hy:ev L y=some (.int j q))(hp:0≤p)(hq:0<q)(hr:gm j (p/q))(h:J P f n R G S all rest k ((d,.int j (p/q))::L) H):J P f n R G S all (.cons m true ⟨some d,.binOp .quo t x y yt,ty,pos,af,gd⟩ rest) k L H :=
 cJ hd (fun a ha w=>by
  have h0:¬q=0:=by omega
  simp[execOp,ha.ev hx,ha.ev hy,eqGuard,binOp,Op.intDiv,h0,Int.tdiv_eq_ediv_of_nonneg hp,cT hr]) h
def iA{t yt:TypeId}{x y:Operand}{j j':IntKind}{p q:Int}(hd:Nat.blt d n=true)(hx:ev L x=some (.int j p))(hy:ev L y=some (.int j' q))(hq:0≤q)(h:J P f n R G S all rest k ((d,.int j (p/2 ^ (min q.toNat j.bits)))::L) H):J P f n R G S all (.cons m true ⟨some d,.binOp .shr t x y yt,ty,pos,af,gd⟩ rest) k L H :=
 cJ hd (fun a ha w=>by
  have h0:¬q<0:=by omega
  have sD:(0:Int)≤2 ^ (min q.toNat j.bits):=Int.le_of_lt (Int.pow_pos ai)
  simp[execOp,ha.ev hx,ha.ev hy,eqGuard,binOp,Op.shift,h0,Int.fdiv_eq_ediv_of_nonneg p sD]) h
def nZ{t yt:TypeId}{x y:Operand}{j j':IntKind}{p q:Int}(hd:Nat.blt d n=true)(hx:ev L x=some (.int j p))(hy:ev L y=some (.int j' q))(hq:0≤q)(h:J P f n R G S all rest k ((d,.int j (j.wrap (p*2 ^ (min q.toNat j.bits))))::L) H):J P f n R G S all (.cons m true ⟨some d,.binOp .shl t x y yt,ty,pos,af,gd⟩ rest) k L H :=
 cJ hd (fun a ha w=>by
  have h0:¬q<0:=by omega
  simp[execOp,ha.ev hx,ha.ev hy,eqGuard,binOp,Op.shift,h0]) h
def vu{src dst:TypeId}{ts td:Ty}{x:Operand}{j j' jd:IntKind}{p:Int}(hd:Nat.blt d n=true)(hx:ev L x=some (.int j p))(hs:U.get src=some ts)(GN:ts.eH = .int j')(G7:U.get dst=some td)(G6:td.eH = .int jd)(hr:gm jd p)(h:J P f n R G S all rest k ((d,.int jd p)::L) H):J P f n R G S all (.cons m true ⟨some d,.convert src dst x,ty,pos,af,gd⟩ rest) k L H :=
 cJ hd (fun a ha w=>by simp[execOp,ha.ev hx,convert,run_underlying hs,run_underlying G7,GN,G6,Conv.intToInt,cT hr]) h
def FQ{src dst:TypeId}{ts td:Ty}{x:Operand}{j j' jd:IntKind}{p:Int}(hd:Nat.blt d n=true)(hx:ev L x=some (.int j p))(hs:U.get src=some ts)(GN:ts.eH = .int j')(G7:U.get dst=some td)(G6:td.eH = .int jd)(h:J P f n R G S all rest k ((d,.int jd (jd.wrap p))::L) H):J P f n R G S all (.cons m true ⟨some d,.convert src dst x,ty,pos,af,gd⟩ rest) k L H :=
 cJ hd (fun a ha w=>by simp[execOp,ha.ev hx,convert,run_underlying hs,run_underlying G7,GN,G6,Conv.intToInt]) h
def jD{g:FuncId}{vs:Array Value}{w:World}(h:P.funcs[g]?.map ix=some true):(callFunc g vs).run P w = .ok (.enter g vs) w:=by
 cases hf:P.funcs[g]? with
 | none=>rw[hf]at h;cases h
 | some fn =>
  rw[hf]at h
  simp only[Option.map_some,Option.some.injEq,ix,Bool.and_eq_true,Bool.not_eq_true']at h
  have h1:fn.body.isNone=false:=by cases hb:fn.body <;> simp_all
  simp only[callFunc,Sem.run_bind,run_program,Result.andThen_ok,hf,h.2,h1,Bool.false_eq_true,if_false,Sem.run_pure]
def bR{fo:Operand}{args:Array Operand}{tu:Array TypeId}{g:FuncId}{cap:Array Value}{vs:List Value}{Pre Fr:List HP}{Post:Value→List HP→Prop}(is:List Nat)(hd:Nat.blt d n=true)(hf:ev L fo=some (.func (.func g) #[] cap))(e9:Cr L args.toList [] = .mk vs){as:List Value}(has:as=vs++cap.toList)(c:aq P g as Pre Post)(hp:pU is [] H [] = .mk Pre Fr)(hS:∀v H' w,Post v H'→Sat G w (H'++Fr)→Sx rest S w)(h:∀v H',Post v H'→J P f n R G S all rest k ((d,v)::L) (H'++Fr)) :
  J P f n R G S all (.cons false true ⟨some d,.call { callee := .value fo,args:=args,argTypes:=tu },ty,pos,af,gd⟩ rest) k L H:=by
 intro a w ha hw _
 refine .inl ⟨.inl rfl,.inr ⟨rfl,?_⟩⟩
 have hr:(execOp a.eval ⟨some d,.call { callee := .value fo,args:=args,argTypes:=tu },ty,pos,af,gd⟩).run P w = .ok (.enter g as.toArray) w:=by
  simp only[execOp,resolve,Sem.run_bind,ha.ev hf,Deferred.ofValue,Sem.run_pure,Result.andThen_ok,invoke]
  rw[jD c.1,kJ ha.1 _ _ e9,has]
  congr 2
  simp
 refine qG (fun c hc=>by cases hc) hr (Calls.mono (c.2 G w Fr (hw.pick is hp)) ?_)
 rintro e w'⟨v,H',rfl,dE,kF⟩
 exact⟨v,rfl,hS v H' w' dE kF,h v H' dE _ w' (ha.put hd v) kF (hS v H' w' dE kF)⟩
end
end Go.SL
