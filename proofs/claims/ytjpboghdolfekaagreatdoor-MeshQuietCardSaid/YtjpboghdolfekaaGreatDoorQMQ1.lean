import Derived.OrdersHeld
import Derived.KernelRfl
import Derived.Laws.Cells
import Derived.Laws.CopyRow
import Derived.Laws.AppendOwn
import Derived.Laws.CopyOwn
import Derived.OrdersIn
import Derived.RangeFuncLeaves
import Derived.Laws.Strings
import Derived.IntWalk
set_option linter.unusedVariables false
set_option linter.defProp false
namespace Go.SL
def zr.{u} {α:Sort u} {a:α}:a=a:=Eq.refl a
def aj{p:Prop}(h:p:=by omega):p:=h
def ae{p:Prop}(h:p:=by kernel_rfl):p:=h
def iM{p:Prop}(h:p:=by(intro _ _ _ _ _;exact trivial)):p:=h
def bq{p:Prop}(h:p:=by(intro _ _ _;exact trivial)):p:=h
def fE{p:Prop}(h:p:=by(intro _ _;exact trivial)):p:=h
abbrev Hp:=Nat→Option Obj
abbrev HP:=Hp→Prop
def emp:HP:=fun h=>∀c,h c=none
def ag(b:Nat)(o:Obj):HP:=fun h=>∀c,h c=if c=b then some o else none
def star(A B:HP):HP:=fun h=>∃h1 h2:Hp,A h1∧B h2∧(∀b,h1 b=none∨h2 b=none)∧∀b,h b=(h1 b).or (h2 b)
def Sep:List HP→HP
 | []=>emp
 | A::l=>star A (Sep l)
def ex{α:Type}(A:α→HP):HP:=fun h=>∃x,A x h
def sub(h' h:Hp):Prop:=∀b o,h' b=some o→h b=some o
def cl(l:List Value)(e:TypeId):Obj := .cells l.toArray e (0,0)
theorem sub.refl(h:Hp):sub h h:=fun _ _ e=>e
def sub.trans{a b c:Hp}(h1:sub a b)(h2:sub b c):sub a c:=fun x o e=>h2 x o (h1 x o e)
theorem ez{A B:HP}{h:Hp}(hs:star A B h):star B A h:=by
 obtain⟨h1,h2,ha,hb,hd,he⟩:=hs
 refine⟨h2,h1,hb,ha,fun b=>(hd b).symm,fun b=>?_⟩
 grind
theorem jj{A B C:HP}{h:Hp}(hs:star A (star B C) h):star (star A B) C h:=by
 obtain⟨h1,h2,ha,⟨h3,h4,hb,hc,hd',he'⟩,hd,he⟩:=hs
 refine⟨fun b=>(h1 b).or (h3 b),h4,⟨h1,h3,ha,hb,fun b=>?_,fun b=>rfl⟩,hc,fun b=>?_,fun b=>?_⟩
 ·grind
 ·grind
 grind
theorem dG{A A' B B':HP}{h:Hp}(ha:∀h,A h→A' h)(hb:∀h,B h→B' h)(hs:star A B h):star A' B' h:=by
 obtain⟨h1,h2,h3,h4,hd,he⟩:=hs
 exact⟨h1,h2,ha _ h3,hb _ h4,hd,he⟩
theorem jA{A B C:HP}{h:Hp}(hs:star (star A B) C h):star A (star B C) h:=by
 grind [ez,star,dG,jj]
theorem yx{A B C:HP}{h:Hp}(hs:star A (star B C) h):star B (star A C) h:=by
 grind [jj,jA,dG,ez]
def oV{H H':List HP}(hp:H.Perm H'):∀h,Sep H h→Sep H' h:=by
 induction hp with
 | nil=>exact fun _ h=>h
 | cons A _ ih=>exact fun h hs=>dG (fun _ h=>h) ih hs
 | swap A B l=>exact fun h hs=>yx hs
 | trans _ _ ih1 O2=>exact fun h hs=>O2 h (ih1 h hs)
def qF{A:HP}{h:Hp}(ha:A h):star A emp h :=
 ⟨h,fun _=>none,ha,fun _=>rfl,fun _ => .inr rfl,fun b=>by simp⟩
theorem yy{A:HP}{h:Hp}(hs:star A emp h):A h:=by
 obtain⟨h1,h2,ha,hb,hd,he⟩:=hs
 have:h=h1:=by funext b;rw[he b,hb b];simp
 grind
def wD{B:HP}{h:Hp}(hs:star emp B h):B h:=yy (ez hs)
def kU{H1 H2:List HP}{h:Hp}(hs:Sep (H1++H2) h):star (Sep H1) (Sep H2) h:=by
 induction H1 generalizing h with
 | nil=>exact ez (qF hs)
 | cons A l ih=>exact jj (dG (fun _ h=>h) (fun _ h=>ih h) hs)
theorem gF{H1 H2:List HP}{h:Hp}(hs:star (Sep H1) (Sep H2) h):Sep (H1++H2) h:=by
 induction H1 generalizing h with
 | nil=>exact wD hs
 | cons A l ih=>exact dG (fun _ h=>h) (fun _ h=>ih h) (jA hs)
def cT{A:HP}{h:Hp}(hs:Sep [A] h):A h:=yy hs
theorem di{A:HP}{h:Hp}(ha:A h):Sep [A] h:=qF ha
def ak(H H':List HP):Prop:=∀h,Sep H h→∃h':Hp,sub h' h∧Sep H' h'
theorem ak.refl(H:List HP):ak H H:=fun h hs=>⟨h,sub.refl h,hs⟩
def ak.trans{H1 H2 H3:List HP}(a:ak H1 H2)(b:ak H2 H3):ak H1 H3:=fun h hs=>by
 obtain⟨h',s1,h1⟩:=a h hs
 obtain⟨h'',s2,h2⟩:=b h' h1
 exact⟨h'',s2.trans s1,h2⟩
def ak.perm{H H':List HP}(hp:H.Perm H'):ak H H':=fun h hs=>⟨h,sub.refl h,oV hp h hs⟩
def ji{A B:HP}{h:Hp}(hs:star A B h):∃h',sub h' h∧A h':=by
 obtain⟨h1,h2,ha,_,_,he⟩:=hs
 exact⟨h1,fun b o e=>by rw[he b,e];rfl,ha⟩
def u0{A B:HP}{h:Hp}(hs:star A B h):∃h',sub h' h∧B h':=ji (ez hs)
def ak.drop(A:HP)(H:List HP):ak (A::H) H:=fun _ hs=>u0 hs
theorem ou{A B B':HP}{h:Hp}(hb:∀h,B h→∃h',sub h' h∧B' h')(hs:star A B h):∃h',sub h' h∧star A B' h':=by
 obtain⟨h1,h2,ha,pR,hd,he⟩:=hs
 obtain⟨h3,s3,Oi⟩:=hb _ pR
 refine⟨fun b=>(h1 b).or (h3 b),fun b o e=>?_,h1,h3,ha,Oi,fun b=>?_,fun b=>rfl⟩
 ·rw[he b]
  rcases hd b with e1|e1
  ·simp only[e1,Option.none_or]at e ⊢;exact s3 b o e
  ·have:h3 b=none:=by
    cases Q1:h3 b with
    | none=>rfl
    | some x=>have:=s3 b x Q1;rw[e1]at this;cases this
   grind
 ·rcases hd b with e1|e1
  ·exact .inl e1
  ·right
   cases Q1:h3 b with
   | none=>rfl
   | some x=>have:=s3 b x Q1;rw[e1]at this;cases this
def ak.cons{H H':List HP}(A:HP)(a:ak H H'):ak (A::H) (A::H'):=fun _ hs=>ou a hs
theorem ak.head{A:HP}{H B:List HP}(hA:∀h,A h→∃h',sub h' h∧Sep B h'):ak (A::H) (B++H):=fun h hs=>by
 obtain⟨h',s,Qz⟩:=ou hA (ez hs)
 grind [gF,ez]
def ak.fold{A:HP}{H B:List HP}(hA:∀h,Sep B h→∃h',sub h' h∧A h'):ak (B++H) (A::H):=fun h hs=>by
 obtain⟨h',s,Qz⟩:=ou hA (ez (kU hs))
 exact⟨h',s,ez Qz⟩
theorem ak.append{H1 H2:List HP}(F:List HP)(a:ak H1 H2):ak (H1++F) (H2++F):=fun h hs=>by
 obtain⟨h',s,Qz⟩:=ou a (ez (kU hs))
 grind [gF,ez]
structure cg where
 tape:Nat→Question→Nat
 os:Os
 output:Array (Nat × ByteArray)
 ro:Option Nat:=none
 lo:Nat:=0
 ds:List Nat:=[]
def Sat(G:cg)(w:World)(H:List HP):Prop :=
 (w.tape=G.tape∧G.lo≤w.drawn)∧w.os=G.os∧w.output=G.output∧∃h:Hp,(∀b o,h b=some o→w.heap[b]?=some o)∧Sep H h
def Sat.cp{G:cg}{w:World}{H H':List HP}(hs:Sat G w H)(he:ak H H'):Sat G w H':=by
 obtain⟨a,b,c,h,hw,hh⟩:=hs
 obtain⟨h',s,hh'⟩:=he h hh
 exact⟨a,b,c,h',fun x o e=>hw x o (s x o e),hh'⟩
def Sat.head{G:cg}{w:World}{A:HP}{H:List HP}(hs:Sat G w (A::H)):∃h:Hp,(∀b o,h b=some o→w.heap[b]?=some o)∧A h:=by
 obtain⟨a,b,c,h,hw,hh⟩:=hs
 obtain⟨h',s,hh'⟩:=ji hh
 exact⟨h',fun x o e=>hw x o (s x o e),hh'⟩
def cJ{H:List HP}{i:Nat}{A:HP}(h:H[i]?=some A):H.Perm (A::H.eraseIdx i):=by
 induction H generalizing i with
 | nil=>simp at h
 | cons B l ih =>
  cases i with
  | zero=>simp at h;subst h;simp
  | succ i =>
   simp at h
   simp only[List.eraseIdx_cons_succ]
   exact((ih h).cons B).trans (List.Perm.swap _ _ _)
def Sat.get{G:cg}{w:World}{H:List HP}(hs:Sat G w H){i:Nat}{b:Nat}{o:Obj}(hi:H[i]?=some (ag b o)):w.heap[b]?=some o:=by
 obtain⟨h,hw,hh⟩:=(hs.cp (ak.perm (cJ hi))).head
 exact hw b o (by rw[hh b];simp)
theorem Sat.lt{G:cg}{w:World}{H:List HP}(hs:Sat G w H){i:Nat}{b:Nat}{o:Obj}(hi:H[i]?=some (ag b o)):b<w.heap.size:=by
 have:=hs.get hi
 grind
theorem Sat.ne{G:cg}{w:World}{b1 b2:Nat}{o1 o2:Obj}{H:List HP}(hs:Sat G w (ag b1 o1::ag b2 o2::H)):b1≠b2:=by
 obtain⟨_,_,_,h,hw,hh⟩:=hs
 obtain⟨h1,h2,ha,hb,hd,he⟩:=hh
 obtain⟨h3,s,Oi⟩:=ji hb
 intro e
 have e1:h1 b1=some o1:=by rw[ha b1];simp
 have e2:h2 b2=some o2:=s b2 o2 (by rw[Oi b2];simp)
 grind
def Sat.draw{G:cg}{w:World}{H:List HP}(hs:Sat G w H)(n:Nat)(hn:w.drawn≤n:=by first|exact Nat.le_succ _|exact Nat.le_refl _|omega):Sat G { w with drawn:=n } H:=⟨⟨hs.1.1,Nat.le_trans hs.1.2 hn⟩,hs.2⟩
theorem Sat.alloc{G:cg}{w:World}{H:List HP}(hs:Sat G w H)(o:Obj):Sat G { w with heap:=w.heap.push o } (ag w.heap.size o::H):=by
 obtain⟨a,b,c,h,hw,hh⟩:=hs
 have cB:∀b,h b≠none→b<w.heap.size:=fun b hb=>by
  cases hx:h b with
  | none=>exact absurd hx hb
  | some x =>
   grind
 refine⟨a,b,c,fun x=>if x=w.heap.size then some o else h x,fun x o' e=>?_,fun x=>if x=w.heap.size then some o else none,h,fun c=>rfl,hh,fun x=>?_,fun x=>?_⟩
 ·grind
 ·grind
 grind
theorem Sat.zS{G:cg}{w:World}{H:List HP}{b:Nat}{o o':Obj}(hs:Sat G w (ag b o::H)) :
  Sat G { w with heap:=w.heap.setIfInBounds b o' } (ag b o'::H):=by
 have cB:b<w.heap.size:=hs.lt (i:=0) rfl
 obtain⟨a,b',c,h,hw,h1,h2,ha,hb,hd,he⟩:=hs
 have h2b:h2 b=none:=by
  rcases hd b with e|e
  ·rw[ha b]at e;simp at e
  ·exact e
 refine⟨a,b',c,fun x=>if x=b then some o' else h x,fun x y e=>?_,fun x=>if x=b then some o' else none,h2,fun _=>rfl,hb,fun x=>?_,fun x=>?_⟩
 ·grind
 ·grind
 ·by_cases hx:x=b
  ·simp[hx]
  ·simp only[hx,if_false,Option.none_or]
   rw[he x,ha x];simp[hx]
inductive ad4 where
 | mk (A:HP) (rest:List HP)
 | no
def PJ:List HP→List HP→HP→ad4
 | [],l,A => .mk A l
 | x::acc,l,A=>PJ acc (x::l) A
def LO:Nat→List HP→List HP→ad4
 | _,[],_ => .no
 | 0,A::l,acc=>PJ acc l A
 | i+1,A::l,acc=>LO i l (A::acc)
inductive ad5 where
 | mk (pre rest:List HP)
 | no
def PM:List HP→List HP→List HP→ad5
 | [],l,r => .mk l r
 | x::acc,l,r=>PM acc (x::l) r
def adj:List Nat→Nat→Nat
 | [],i=>i
 | r::rs,i=>bif Nat.blt r i then Nat.sub (adj rs i) 1 else adj rs i
def qO:List Nat→List Nat→List HP→List HP→ad5
 | [],_,H,acc=>PM acc [] H
 | i::is,gone,H,acc=>match LO (adj gone i) H []with
  | .mk A r=>qO is (i::gone) r (A::acc)
  | .no => .no
def PH(acc l:List HP)(A B:HP)(r:List HP)(h:PJ acc l A = .mk B r):B=A∧r=acc.reverse++l:=by
 induction acc generalizing l with
 | nil=>simp[PJ]at h;simp[h]
 | cons x acc ih=>have:=ih (x::l) h;simp[this]
def yN(i:Nat)(H acc:List HP)(A:HP)(r:List HP)(h:LO i H acc = .mk A r):(acc.reverse++H).Perm (A::r):=by
 induction H generalizing i acc with
 | nil=>cases i <;> simp[LO]at h
 | cons B l ih =>
  cases i with
  | zero =>
   obtain⟨rfl,rfl⟩:=PH _ _ _ _ _ h
   exact List.perm_middle
  | succ i=>have:=ih i (B::acc) h;simpa using this
def PK(acc l r pre rest:List HP)(h:PM acc l r = .mk pre rest):pre=acc.reverse++l∧rest=r:=by
 induction acc generalizing l with
 | nil=>simp[PM]at h;simp[h]
 | cons x acc ih=>have:=ih (x::l) h;simp[this]
def vu(is gone:List Nat)(H acc pre rest:List HP)(h:qO is gone H acc = .mk pre rest):(acc.reverse++H).Perm (pre++rest):=by
 induction is generalizing gone H acc with
 | nil =>
  obtain⟨rfl,rfl⟩:=PK _ _ _ _ _ h
  simp
 | cons i is ih =>
  simp only[qO]at h
  split at h
  ·rename_i A r hr
   have h1:=yN _ _ _ _ _ hr
   have h2:=ih _ _ _ h
   refine List.Perm.trans ?_ h2
   simp only[List.reverse_cons,List.append_assoc,List.singleton_append]
   exact List.Perm.append_left _ (by simpa using h1)
  ·cases h
def Sat.pick{G:cg}{w:World}{H pre rest:List HP}(is:List Nat)(hs:Sat G w H)(h:qO is [] H [] = .mk pre rest):Sat G w (pre++rest) :=
 hs.cp (ak.perm (by simpa using vu is [] H [] pre rest h))
def ak.pick{H pre rest:List HP}(is:List Nat)(h:qO is [] H [] = .mk pre rest):ak H (pre++rest) :=
 ak.perm (by simpa using vu is [] H [] pre rest h)
def ak.bu{H pre rest:List HP}(is:List Nat)(h:qO is [] H [] = .mk pre rest):ak H pre :=
 (ak.pick is h).trans (fun _ hs=>ji (kU hs))
def Sat.set{G:cg}{w:World}{H:List HP}{i:Nat}{b:Nat}{o o':Obj}(hs:Sat G w H)(hi:H[i]?=some (ag b o)) :
  Sat G { w with heap:=w.heap.setIfInBounds b o' } (ag b o'::H.eraseIdx i) :=
 (hs.cp (ak.perm (cJ hi))).zS
theorem sk{w:World}{b:Nat}{l:List Value}{e:TypeId}{off:Nat}{v:Value}(h:w.heap[b]?=some (cl l e)) :
  w.setCell ⟨b,off,none⟩ v={ w with heap:=w.heap.setIfInBounds b (cl (l.set off v) e) }:=by
 have cB:b<w.heap.size:=by
  grind
 have hb:w.heap[b]=cl l e:=by rw[Array.getElem?_eq_getElem cB]at h;exact Option.some.inj h
 unfold World.setCell
 congr 1
 grind [cl]
theorem cZ{w:World}{b:Nat}{l:List Value}{e:TypeId}{off:Nat}(h:w.heap[b]?=some (cl l e)):w.cell? ⟨b,off,none⟩=l[off]? := by
 simp[World.cell?,h,cl]
theorem jN{w:World}{b:Nat}{l:List Value}{e:TypeId}{off:Nat}(h:w.heap[b]?=some (cl l e)):w.frozen? ⟨b,off,none⟩=false:=by
 simp only[World.frozen?,h,cl];simp
abbrev eC:=List (Nat × Value)
def dp:eC→Nat→Option Value
 | [],_=>none
 | (s,v)::l,t=>bif Nat.beq s t then some v else dp l t
def Has(n:Nat)(L:eC)(a:Act):Prop:=a.tmps.size=n∧True∧∀t v,dp L t=some v→a.tmps[t]?=some v
def ev(L:eC):Operand→Option Value
 | .tmp t=>dp L t
 | .const v=>some v
 | .func f=>some (.func (.func f) #[] #[])
 | .global g=>some (.pointer (some ⟨g,0,none⟩))
def Has.ev{n:Nat}{L:eC}{a:Act}{x:Operand}{v:Value}(h:Has n L a)(e:ev L x=some v):a.eval x=v:=by
 cases x with
 | tmp t=>simp only[SL.ev]at e;have:=h.2.2 t v e;simp[Act.eval,Array.getD_eq_getD_getElem?,this]
 | const c=>simp only[SL.ev]at e;cases e;rfl
 | global g=>simp only[SL.ev]at e;cases e;rfl
 | func f=>simp only[SL.ev]at e;cases e;rfl
def Has.put{n:Nat}{L:eC}{a:Act}{d:Nat}(h:Has n L a)(hd:Nat.blt d n=true)(v:Value):Has n ((d,v)::L) (a.put (some d) v):=by
 have hd':d<a.tmps.size:=by rw[h.1];simpa[Nat.blt_eq]using hd
 refine⟨by simpa[Act.put]using h.1,h.2.1,fun t u e=>?_⟩
 simp only[dp]at e
 cases hb:Nat.beq d t with
 | true =>
  have:d=t:=Nat.eq_of_beq_eq_true hb
  subst this
  simp only[hb,cond_true]at e
  cases e
  simp[Act.put,hd']
 | false =>
  simp only[hb,cond_false]at e
  have gf:d≠t:=Nat.ne_of_beq_eq_false hb
  simp only[Act.put,Array.getElem?_setIfInBounds_ne gf]
  exact h.2.2 t u e
def Has.sub{n:Nat}{L L':eC}{a:Act}(h:Has n L a)(hs:∀t v,dp L' t=some v→dp L t=some v):Has n L' a :=
 ⟨h.1,h.2.1,fun t v e=>h.2.2 t v (hs t v e)⟩
inductive JW where
 | mk (vs:List Value)
 | no
def Ax:List Value→List Value→JW
 | [],l => .mk l
 | x::acc,l=>Ax acc (x::l)
def DZ(L:eC):List Operand→List Value→JW
 | [],acc=>Ax acc []
 | x::xs,acc=>match ev L x with
  | some v=>DZ L xs (v::acc)
  | none => .no
theorem px(acc l vs:List Value)(h:Ax acc l = .mk vs):vs=acc.reverse++l:=by
 induction acc generalizing l with
 | nil=>simp[Ax]at h;simp[h]
 | cons x acc ih=>have:=ih (x::l) h;simp[this]
def aaM{n:Nat}{L:eC}{a:Act}(ha:Has n L a)(xs:List Operand)(acc vs:List Value)(h:DZ L xs acc = .mk vs):vs=acc.reverse++xs.map a.eval:=by
 induction xs generalizing acc with
 | nil=>have:=px _ _ _ h;simpa using this
 | cons x xs ih =>
  simp only[DZ]at h
  split at h
  ·rename_i v hv
   have:=ih _ h
   rw[this,List.map_cons,ha.ev hv]
   simp
  ·cases h
theorem lF{n:Nat}{L:eC}{a:Act}(ha:Has n L a)(xs:Array Operand)(vs:List Value)(h:DZ L xs.toList [] = .mk vs):xs.map a.eval=vs.toArray:=by
 have:=aaM ha _ _ _ h
 grind
def mark(r:Nat):Deferred:={ target := .collected r,args := #[] }
def qs(G:cg)(n:Nat)(L:eC)(a:Act):Prop:=Has n L a∧a.defers=G.ds.map mark
def qs.ev{G:cg}{n:Nat}{L:eC}{a:Act}{x:Operand}{v:Value}(h:qs G n L a)(e:SL.ev L x=some v):a.eval x=v:=h.1.ev e
def qs.put{G:cg}{n:Nat}{L:eC}{a:Act}{d:Nat}(h:qs G n L a)(hd:Nat.blt d n=true)(v:Value):qs G n ((d,v)::L) (a.put (some d) v):=⟨h.1.put hd v,h.2⟩
def qs.sub{G:cg}{n:Nat}{L L':eC}{a:Act}(h:qs G n L a)(hs:∀t v,dp L' t=some v→dp L t=some v):qs G n L' a:=⟨h.1.sub hs,h.2⟩
def qs.get{G:cg}{n:Nat}{L:eC}{a:Act}(h:qs G n L a){t:Nat}{v:Value}(e:dp L t=some v):a.tmps[t]?=some v:=h.1.2.2 t v e
def fw(ro:Option Nat):Fence:={ fn:=fun _=>True,depth:=none,alive:=false,round:=ro }
def sH(P:Program)(ro:Option Nat)(m:Machine):m.fenced P (fw ro):=fun _ _=>⟨fun h=>by simp[fw]at h,.inl trivial,fun _ _=>trivial,fun _ h=>by simp[fw]at h⟩
def OD(ro:Option Nat)(n:Nat):(fw ro).room n:=fun _ h=>by simp[fw]at h
def FH{ro:Option Nat}{n:Nat}{P:Program}{f:FuncId}{args:Array Value}{w:World}{R:Ending→World→Prop}(h:Calls P f args w R):CallsIn (fw ro) n P f args w R :=
  ⟨trivial,fun cs _=>by
    obtain⟨e,w',fr,r,s,x⟩:=h cs
    refine⟨e,w',fr,r,?_,x⟩
    cases e with
    | returned v=>exact(StepsIn.of_steps s).mono fun m _=>sH P ro m
    | panicked c=>exact(StepsIn.of_steps s).mono fun m _=>sH P ro m
    | outgrown=>exact s⟩
def bf(ro:Option Nat)(f:FuncId)(a:Act)(k:List Item):Frame:=({ (default:Frame)with fn:=f,kind := .normal,roundOf:=ro }:Frame).atR a k
def JV(P:Program)(f:FuncId)(R:Ending→World→Prop)(cs:List Frame)(m:Machine):Option Nat→Prop
 | none=>∃e w' fr,R e w'∧Comes P m (lone fr cs w') e∧fr.fn=f∧fr.leaving P w' e
 | some _=>∀c wH,cs=c::wH→∃v w',R (.returned v) w'∧Steps P m (lone (c.finish v) wH w')
def JV.of_steps{P:Program}{f:FuncId}{R:Ending→World→Prop}{cs:List Frame}{m m':Machine}{ro:Option Nat}(hs:Steps P m m')(h:JV P f R cs m' ro):JV P f R cs m ro:=by
 cases ro with
 | none=>obtain⟨e,w',fr,hR,hc,h1⟩:=h;exact⟨e,w',fr,hR,Comes.of_steps hs hc,h1⟩
 | some l=>intro c wH jy;obtain⟨v,w',hR,hc⟩:=h c wH jy;exact⟨v,w',hR,hs.trans hc⟩
def Ok(P:Program)(f:FuncId)(R:Ending→World→Prop)(ro:Option Nat)(k:List Item)(a:Act)(w:World):Prop :=
 ∀cs,JV P f R cs (lone (bf ro f a k) cs w) ro
def K(P:Program)(f:FuncId)(n:Nat)(R:Ending→World→Prop)(G:cg)(k:List Item)(L:eC)(H:List HP):Prop :=
 ∀a w,qs G n L a→Sat G w H→Ok P f R G.ro k a w
def Qk(P:Program)(f:FuncId)(R:Ending→World→Prop)(ro:Option Nat)(k:List Item):Exit→Act→World→Prop
 | .normal,a,w=>Ok P f R ro k a w
 | _,_,_=>False
inductive Pl where
 | nil
 | cons (m g:Bool) (o:Oper) (rest:Pl)
 | fork (l r:Pl)
def Sx:Pl→(World→Prop)→World→Prop
 | .nil,_,_=>True
 | .cons _ _ _ _,S,w=>S w
 | .fork _ _,S,w=>S w
def Sx.of{rest:Pl}{S:World→Prop}{w:World}(h:S w):Sx rest S w:=by cases rest <;> first|exact trivial|exact h
def Kk(P:Program)(ro:Option Nat)(S:World→Prop)(Q:Exit→Act→World→Prop)(all:Array Oper):Pl→Act→World→Prop
  | .nil,a,w=>Q .normal a w
  | .cons m g o rest,a,w =>
    ((g=true∨Region.wanted o (yielded all a.tmps)=true) ∧
      ((m=true∧∃v,(∀w,S w→(execOp a.eval o).run P w = .ok (.value v) w)∧Kk P ro S Q all rest (a.put o.dst v) w) ∨
       (m=false∧o.wpIn (fw ro) 0 P a w (fun a' w'=>Sx rest S w'∧Kk P ro S Q all rest a' w') Q))) ∨
    (g=false∧Region.wanted o (yielded all a.tmps)=false∧Kk P ro S Q all rest (a.put o.dst undef) w)
  | .fork l r,a,w=>Kk P ro S Q all l a w∧Kk P ro S Q all r a w
def J(P:Program)(f:FuncId)(n:Nat)(R:Ending→World→Prop)(G:cg)(S:World→Prop)(all:Array Oper)(rest:Pl)(k:List Item)(L:eC)(H:List HP):Prop :=
 ∀a w,qs G n L a→Sat G w H→Sx rest S w→Kk P G.ro S (Qk P f R G.ro k) all rest a w
def qS:Option (Nat × Bool)→Bool
 | none=>true
 | _=>false
def items:List Oper→Pl
 | [] => .nil
 | o::l => .cons false (qS o.guard) o (items l)
def vb{P:Program}{ρ:Operand→Value}{o:Oper}{w w':World}{v:Value}(ro:Option Nat)(h:(execOp ρ o).run P w = .ok (.value v) w'):o.semAt ro ρ=execOp ρ o:=by
 refine Oper.semAt_eq ro ρ o fun c hc=>?_
 obtain⟨d,op,ty,pos,af,gd⟩:=o
 simp only at hc
 subst hc
 simp only[execOp,Sem.run_bind]at h
 cases hr:(resolve ρ c ty).run P w with
 | ok d' w1=>rw[hr]at h;simp at h
 | halt x w1=>rw[hr]at h;simp at h
theorem fM{P:Program}{ro:Option Nat}{o:Oper}{a:Act}{w w':World}{v:Value}{next:Act→World→Prop}{Q:Exit→Act→World→Prop}(h:(execOp a.eval o).run P w = .ok (.value v) w')(hn:next (a.put o.dst v) w'):o.wpIn (fw ro) 0 P a w next Q:=by
 refine⟨fun _ _=>trivial,?_⟩
 show o.uponIn (fw ro) 0 P a next Q ((o.semAt ro a.eval).run P w)
 rw[vb ro h,h]
 exact hn
def ku{P:Program}{ro:Option Nat}{o:Oper}{a:Act}{w:World}{next:Act→World→Prop}{Q:Exit→Act→World→Prop}{r:Result Next}(ho:∀c,o.op ≠ .defer c)(h:(execOp a.eval o).run P w=r)(hn:o.uponIn (fw ro) 0 P a next Q r):o.wpIn (fw ro) 0 P a w next Q:=by
 refine⟨fun _ _=>trivial,?_⟩
 show o.uponIn (fw ro) 0 P a next Q ((o.semAt ro a.eval).run P w)
 rw[Oper.semAt_eq ro a.eval o ho,h]
 exact hn
def wpIn_skip{P:Program}{ro:Option Nat}{o:Oper}{a:Act}{w w':World}{next:Act→World→Prop}{Q:Exit→Act→World→Prop}(h:(execOp a.eval o).run P w = .ok .skip w')(hn:next (a.put o.dst undef) w'):o.wpIn (fw ro) 0 P a w next Q:=by
 refine ku (fun c hc=>?_) h hn
 obtain⟨d,op,ty,pos,af,gd⟩:=o
 simp only at hc
 subst hc
 simp only[execOp,Sem.run_bind]at h
 cases hr:(resolve a.eval c ty).run P w with
 | ok d' w1=>rw[hr]at h;simp at h
 | halt x w1=>rw[hr]at h;simp at h
theorem rZ{P:Program}{ro:Option Nat}{o:Oper}{a:Act}{w:World}{f:FuncId}{args:Array Value}{w':World}{next:Act→World→Prop}{Q:Exit→Act→World→Prop}(ho:∀c,o.op ≠ .defer c)(h:(execOp a.eval o).run P w = .ok (.enter f args) w')(hn:Calls P f args w' fun e w''=>∃v,e = .returned v∧next (a.put o.dst v) w''):o.wpIn (fw ro) 0 P a w next Q:=by
 refine ku ho h ⟨fun h=>by simp[fw]at h,FH (hn.mono ?_)⟩
 grind
section
variable{P:Program}{f:FuncId}{n:Nat}{R:Ending→World→Prop}{G:cg}{k:List Item}{L:eC}{H:List HP}
def ad7{c:Code}(h:∀a w,qs G n L a→Sat G w H→c.wpIn (fw G.ro) 0 P (Qk P f R G.ro k) a w):K P f n R G (.code c::k) L H:=by
 intro a w ha hw cs
 obtain⟨e,a',w',hq,afy⟩:=h a w ha hw ({ (default:Frame)with fn:=f,kind := .normal,roundOf:=G.ro }:Frame) k cs rfl trivial (OD _ _)
 cases e with
 | normal=>exact(hq cs).of_steps (StepsIn.steps afy)
 | exit id=>exact hq.elim
 | goto l=>exact hq.elim
 | ret=>exact hq.elim
 | panic c=>exact hq.elim
 | outgrown=>exact hq.elim
def l3{k':List Item}(hs:∀a cs w,step P (lone (bf G.ro f a k) cs w) = .next (lone (bf G.ro f a k') cs w))(h:K P f n R G k' L H):K P f n R G k L H :=
 fun a w ha hw cs=>(h a w ha hw cs).of_steps (.one (hs a cs w))
def HC{L':eC}(hs:∀t v,dp L' t=some v→dp L t=some v)(h:K P f n R G k L' H):K P f n R G k L H :=
 fun a w ha hw=>h a w (ha.sub hs) hw
def ai{H':List HP}(he:ak H H')(h:K P f n R G k L H'):K P f n R G k L H :=
 fun a w ha hw=>h a w ha (hw.cp he)
def oZ(h:(∃w,Sat G w H)→K P f n R G k L H):K P f n R G k L H:=fun a w ha hw=>h ⟨w,hw⟩ a w ha hw
def cG{α:Type}{A:HP}{B:α→List HP}{q:α→Prop}(hA:∀h,A h→∃x,q x∧Sep (B x) h)(h:∀x,q x→K P f n R G k L (B x++H)):K P f n R G k L (A::H):=by
 intro a w ha hw
 obtain⟨t,o,u,hp,yV,h1,h2,xF,hH,hd,he⟩:=hw
 obtain⟨x,hx,hB⟩:=hA _ xF
 exact h x hx a w ha ⟨t,o,u,hp,yV,gF ⟨h1,h2,hB,hH,hd,he⟩⟩
variable{S:World→Prop}{all:Array Oper}{rest:Pl}
def NN{L':eC}(hs:∀t v,dp L' t=some v→dp L t=some v)(h:J P f n R G S all rest k L' H):J P f n R G S all rest k L H :=
 fun a w ha hw=>h a w (ha.sub hs) hw
def aR{H':List HP}(he:ak H H')(h:J P f n R G S all rest k L H'):J P f n R G S all rest k L H :=
 fun a w ha hw=>h a w ha (hw.cp he)
def xk(h:∀w,Sat G w H→J P f n R G S all rest k L H):J P f n R G S all rest k L H:=fun a w ha hw=>h w hw a w ha hw
def Ga{α:Type}{A:HP}{B:α→List HP}{q:α→Prop}(hA:∀h,A h→∃x,q x∧Sep (B x) h)(h:∀x,q x→J P f n R G S all rest k L (B x++H)):J P f n R G S all rest k L (A::H):=by
 intro a w ha hw
 obtain⟨t,o,u,hp,yV,h1,h2,xF,hH,hd,he⟩:=hw
 obtain⟨x,hx,hB⟩:=hA _ xF
 exact h x hx a w ha ⟨t,o,u,hp,yV,gF ⟨h1,h2,hB,hH,hd,he⟩⟩
def Dz(h:K P f n R G k L H):J P f n R G S all .nil k L H:=fun a w ha hw _=>h a w ha hw
def nL{l r:Pl}(h1:J P f n R G S all l k L H)(h2:J P f n R G S all r k L H):J P f n R G S all (.fork l r) k L H:=fun a w ha hw hS=>⟨h1 a w ha hw (Sx.of hS),h2 a w ha hw (Sx.of hS)⟩
theorem iK{o:Oper}{y:Nat→Option Bool}(h:qS o.guard=true):Region.wanted o y=true:=by
 unfold qS at h
 unfold Region.wanted
 grind
def zH{ro:Option Nat}{Q:Exit→Act→World→Prop}(l:List Oper):∀(i:Nat) (a:Act) (w:World),(∀j,all[i+j]?=l[j]?) →
  Kk P ro (fun _=>True) Q all (items l) a w→wpOpsIn (fw ro) 0 P all Q (List.range' i l.length) a w:=by
 induction l with
 | nil=>exact fun i a w _ h=>h
 | cons o l ih =>
  intro i a w hl h
  have h0:all[i]?=some o:=by simpa using hl 0
  have MB:∀j,all[i+1+j]?=l[j]? := fun j=>by have:=hl (j+1);simp at this;rw[← this];congr 1;omega
  simp only[List.length_cons,List.range'_succ,wpOpsIn,h0]
  simp only[items,Kk]at h
  rcases h with⟨hg,⟨hm,_⟩|⟨_,hw⟩⟩|⟨_,hw,h⟩
  ·cases hm
  ·have Cw:Region.wanted o (yielded all a.tmps)=true:=hg.elim iK id
   simp only[Cw,if_true]
   exact Oper.wpIn_mono (fun a' w' h'=>ih (i+1) a' w' MB h'.2) hw
  ·simp only[hw,Bool.false_eq_true,if_false]
   exact⟨fun _ _=>trivial,ih (i+1) _ w MB h⟩
def NK{id:Nat}{ops:Array Oper}(h:J P f n R G (fun _=>True) ops (items ops.toList) k L H):K P f n R G (.code (.region id ops false)::k) L H :=
 ad7 fun a w ha hw=>wpIn_region (by
  have:=zH (P:=P) (all:=ops) (Q:=Qk P f R G.ro k) ops.toList 0 a w (by simp) (h a w ha hw (Sx.of (S:=fun _=>True) trivial))
  rw[List.range_eq_range']
  simpa using this)
inductive Pt where
 | nil
 | st (i:Nat) (p:Pt)
 | act (i:Nat) (p:Pt)
 | fork (l r:Pt)
def dI(all:Array Oper):Pt→Pl
 | .nil => .nil
 | .st i p=>match all.toList[i]? with
  | some o => .cons true (qS o.guard) o (dI all p)
  | none=>dI all p
 | .act i p=>match all.toList[i]? with
  | some o => .cons false (qS o.guard) o (dI all p)
  | none=>dI all p
 | .fork l r => .fork (dI all l) (dI all r)
def Pt.oK:Pt→List Nat
 | .act i _=>[i]
 | .fork l r=>l.oK++r.oK
 | _=>[]
def Pt.depth:Pt→Nat
 | .nil=>0
 | .st _ p=>p.depth+1
 | .act _ p=>p.depth+1
 | .fork l r=>max l.depth r.depth
def Pt.isNil:Pt→Bool
 | .nil=>true
 | _=>false
def BZ(all:Array Oper)(i:Nat):List Nat:=match all[i]? with
 | some o=>(o.after.toList.filter fun e=>Region.binds .any e).map (·.on)
 | none=>[]
def pass(all:Array Oper):Nat→List Nat→List Nat
 | 0,s=>s
 | k+1,s=>pass all k (if s.contains k then BZ all k++s else s)
def nq(all:Array Oper)(j:Nat):Bool:=(List.range all.size).all fun i=>Nat.beq i j || (pass all all.size (BZ all j)).contains i
def dH(all:Array Oper):Bool→Pt→Array Bool→Bool
 | top,.nil,listed=>top && (Region.ready .any all listed).isEmpty
 | top,.st i p,listed=>top && decide (i<all.size) && Region.free .any all listed i && (Region.ready .any all listed).contains i && dH all true p (listed.setIfInBounds i true)
 | top,.act i p,listed=>(!top || (Region.ready .any all listed).all (fun j=>Nat.beq j i)) && (Region.ready .any all listed).contains i && decide (i<all.size) && (!p.isNil || nq all i) && dH all true p (listed.setIfInBounds i true)
 | top,.fork l r,listed=>(!top || (Region.ready .any all listed).all (fun j=>(l.oK++r.oK).contains j)) && dH all false l listed && dH all false r listed
def yO(ops:Array Oper):Bool:=ops.toList.all fun o=>match o.op with
 | .defer _=>false
 | _=>true
theorem EU{ops:Array Oper}(h:yO ops=true){j:Nat}{o:Oper}(hj:ops[j]?=some o):∀c,o.op ≠ .defer c:=by
 intro c hc
 have hm:o∈ops.toList:=by
  grind
 have:=List.all_eq_true.1 h o hm
 grind
def Qm(P:Program)(ro:Option Nat)(ops:Array Oper)(Q:Exit→Act→World→Prop)(S:World→Prop):Nat→Array Bool→Act→World→Prop
 | 0,listed,a,w=>Region.ready .any ops listed=[]∧Q .normal a w
 | fuel+1,listed,a,w =>
  (Region.ready .any ops listed=[]→Q .normal a w) ∧
  ∀i∈Region.ready .any ops listed,wpOpIn (fw ro) 0 P ops Q i (fun a' w'=>(S w'∨nq ops i=true)∧Qm P ro ops Q S fuel (listed.setIfInBounds i true) a' w') a w
def qy{P:Program}{ro:Option Nat}{ops:Array Oper}{Q:Exit→Act→World→Prop}{S:World→Prop}:∀(fuel:Nat) (listed:Array Bool) (a:Act) (w:World),Qm P ro ops Q S fuel listed a w→wpAnyIn (fw ro) 0 P .any ops Q fuel listed a w
 | 0,_,_,_,h=>h
 | fuel+1,_,_,_,h=>⟨h.1,fun i hi=>wpOpIn_mono (fun a' w' h'=>qy fuel _ a' w' h'.2) (h.2 i hi)⟩
theorem sZ{P:Program}{ro:Option Nat}{ops:Array Oper}{Q:Exit→Act→World→Prop}{S:World→Prop}{i:Nat}{o:Oper}{v:Value}{a:Act}(hi:ops[i]?=some o)(hy:YieldsIf P ops S o v a){K:Act→World→Prop}{w:World}(hS:S w)(h:K (a.put o.dst v) w):wpOpIn (fw ro) 0 P ops Q i K a w:=by
 unfold wpOpIn
 simp only[hi]
 rcases hy with⟨hw,hv⟩|⟨hw,rfl⟩
 ·grind [fM]
 ·simp only[hw,Bool.false_eq_true,if_false];exact⟨fun _ _=>trivial,h⟩
def wpOp_put{P:Program}{ro:Option Nat}{ops:Array Oper}{Q:Exit→Act→World→Prop}{S:World→Prop}{j:Nat}{oi oj:Oper}{v:Value}(hj:ops[j]?=some oj)(Jj:oi.apart ops oj=true)(hsi:∀cs b,oi.op ≠ .select cs b)(hsj:∀cs b,oj.op ≠ .select cs b)(hdj:∀c,oj.op ≠ .defer c)(hQ:∀c a w,Q (.panic c) (a.put oi.dst v) w→Q (.panic c) a w){K:Act→World→Prop}{a:Act}{w:World}(hy:YieldsIf P ops S oi v a)(h:wpOpIn (fw ro) 0 P ops Q j K (a.put oi.dst v) w) :
  wpOpIn (fw ro) 0 P ops Q j (fun a' w'=>YieldsIf P ops S oi v a'∧K (a'.put oi.dst v) w') a w:=by
 obtain⟨h1,h2,h3⟩:=Oper.apart_spec Jj
 have stay:∀u,YieldsIf P ops S oi v (a.put oj.dst u):=fun u=>hy.of_same (execOp_put oi hsi a oj.dst u h3) (wanted_put oi a oj.dst u h3)
 have on:∀u w',K ((a.put oi.dst v).put oj.dst u) w'→YieldsIf P ops S oi v (a.put oj.dst u)∧K ((a.put oj.dst u).put oi.dst v) w':=fun u w' hk=>⟨stay u,by rw[← Act.put_comm a v u h2];exact hk⟩
 unfold wpOpIn at h ⊢
 rw[hj]at h ⊢
 simp only[wanted_put oj a oi.dst v h1]at h ⊢
 cases hw:Region.wanted oj (yielded ops a.tmps)with
 | false=>simp only[hw,Bool.false_eq_true,if_false]at h ⊢;exact⟨fun _ _=>trivial,on _ _ h.2⟩
 | true =>
  simp only[hw,if_true]at h ⊢
  have h:=h.2
  rw[show(fw ro).round=ro from rfl,Oper.semAt_eq ro _ oj hdj,execOp_put oj hsj a oi.dst v h1]at h
  refine ku hdj rfl ?_
  generalize (execOp a.eval oj).run P w=r at h ⊢
  cases r with
  | ok x w' =>
   cases x <;> simp only[Oper.uponIn]at h ⊢
   case value u=>exact on _ _ h
   case skip=>exact on _ _ h
   case defer d=>exact⟨hy.of_same zr zr |>.of_same (execOp_put oi hsi _ oj.dst undef h3) (wanted_put oi _ oj.dst undef h3),by rw[← Act.put_comm _ v undef h2,← Act.put_defers];exact h⟩
   case enter f args =>
    refine⟨h.1,CallsIn.mono h.2 fun e w'' he=>?_⟩
    cases e with
    | returned u=>exact on _ _ he
    | panicked c=>exact hQ _ _ _ he
    | outgrown=>exact he
   case row row args=>exact⟨h.1,RowsIn.mono h.2 fun u w'' he=>on _ _ he⟩
   case round l f tmps assign body =>
    refine⟨h.1,RoundIn.mono h.2 fun e w'' he=>?_⟩
    cases e with
    | returned u=>exact on _ _ he
    | panicked c=>exact hQ _ _ _ he
    | outgrown=>exact he
  | halt x w' =>
   cases x <;> simp only[Oper.uponIn]at h ⊢
   case panic u=>exact hQ _ _ _ h
def Down(ops:Array Oper)(listed:Array Bool):Prop:=listed.size=ops.size∧∀i,i<ops.size→listed.getD i false=true→∀p∈BZ ops i,listed.getD p false=true
theorem tq{ops:Array Oper}{listed:Array Bool}{i:Nat}(h:i∈Region.ready .any ops listed):∀p∈BZ ops i,listed.getD p false=true:=by
 obtain⟨h0,o,ho,eY⟩:=mem_ready.1 h
 grind [BZ]
theorem Down.set{ops:Array Oper}{listed:Array Bool}{i:Nat}(hd:Down ops listed)(h:i∈Region.ready .any ops listed):Down ops (listed.setIfInBounds i true):=by
 refine⟨by simp[hd.1],fun j hj hl p hp=>?_⟩
 have ado:∀q,listed.getD q false=true→(listed.setIfInBounds i true).getD q false=true:=fun q hq=>getD_set_true hq
 by_cases I':i=j
 ·grind [tq]
 ·rw[getD_set_ne false I']at hl
  exact ado p (hd.2 j hj hl p hp)
theorem B4{ops:Array Oper}{listed:Array Bool}(hd:Down ops listed):∀(k:Nat) (s:List Nat),k≤ops.size→(∀x∈s,listed.getD x false=true)→∀x∈pass ops k s,listed.getD x false=true:=by
 intro k
 induction k with
 | zero=>intro s _ h x hx;exact h x hx
 | succ k ih =>
  intro s hk h x hx
  simp only[pass]at hx
  refine ih _ aj ?_ x hx
  intro y hy
  split at hy
  ·rename_i hc
   rcases List.mem_append.1 hy with hy|hy
   ·exact hd.2 k aj (h k (by simpa using hc)) y hy
   grind
  grind
theorem Cr{ops:Array Oper}{listed:Array Bool}{j:Nat}(hd:Down ops listed)(h:j∈Region.ready .any ops listed)(hl:nq ops j=true){i:Nat}(hi:i<ops.size)(gf:j≠i):listed.getD i false=true:=by
 simp only[nq,List.all_eq_true,List.mem_range,Bool.or_eq_true]at hl
 rcases hl i hi with h1|h1
 ·simp_all
 ·exact B4 hd _ _ (Nat.le_refl _) (tq h) i (by simpa using h1)
theorem yn{P:Program}{ro:Option Nat}{ops:Array Oper}{Q:Exit→Act→World→Prop}{S:World→Prop}{i:Nat}{oi:Oper}{v:Value}(hi:ops[i]?=some oi)(ac4:∀(j:Nat) (o:Oper) cs b,ops[j]?=some o→o.op ≠ .select cs b)(afo:yO ops=true)(hQ:∀c a w,Q (.panic c) (a.put oi.dst v) w→Q (.panic c) a w) :
  ∀(fuel:Nat) (listed:Array Bool) (a:Act) (w:World),Down ops listed →
   (∀j oj,ops[j]?=some oj→j≠i→listed.getD j true=false→(∀e∈oj.after,Region.binds .any e=true→e.on≠i)→oi.apart ops oj=true) →
   i∈Region.ready .any ops listed→YieldsIf P ops S oi v a→S w →
   Qm P ro ops Q S fuel (listed.setIfInBounds i true) (a.put oi.dst v) w→Qm P ro ops Q S (fuel+1) listed a w:=by
 intro fuel
 have agi:i<ops.size:=(Array.getElem?_eq_some_iff.1 hi).1
 induction fuel with
 | zero =>
  intro listed a w _ _ hr hy hS H
  refine⟨fun h=>(by rw[h]at hr;cases hr),fun j hj=>?_⟩
  by_cases QN:j=i
  ·subst QN;exact sZ hi hy hS ⟨.inl hS,H⟩
  ·have:=ready_mono hj QN
   rw[H.1]at this
   cases this
 | succ fuel ih =>
  intro listed a w adI CH hr hy hS H
  refine⟨fun h=>(by rw[h]at hr;cases hr),fun j hj=>?_⟩
  by_cases QN:j=i
  ·subst QN;exact sZ hi hy hS ⟨.inl hS,H⟩
  ·have h1:=H.2 j (ready_mono hj QN)
   obtain⟨adp,oj,hoj,eY⟩:=mem_ready.1 hj
   have h0:=(mem_ready.1 hr).1
   have k8:∀e∈oj.after,Region.binds .any e=true→e.on≠i:=fun e he hb heq=>by
    grind
   have G9:nq ops j≠true:=fun hl=>by
    grind [Cr]
   have h2:=wpOp_put hoj (CH j oj hoj QN adp k8) (fun cs b=>ac4 i oi cs b hi) (fun cs b=>ac4 j oj cs b hoj) (EU afo hoj) hQ hy h1
   have aau:∀k ok,ops[k]?=some ok→k≠i→(listed.setIfInBounds j true).getD k true=false →
     (∀e∈ok.after,Region.binds .any e=true→e.on≠i)→oi.apart ops ok=true:=fun k ok hk hki hun tJ=>by
    refine CH k ok hk hki ?_ tJ
    by_cases hjk:j=k
    ·subst hjk;exact adp
    ·rw[getD_set_ne true hjk]at hun;exact hun
   refine wpOpIn_mono (fun a' w' h3=>?_) h2
   have MO:S w':=h3.2.1.resolve_right G9
   refine⟨.inl MO,ih (listed.setIfInBounds j true) a' w' (adI.set hj) aau (ready_mono hr (Ne.symm QN)) h3.1 MO ?_⟩
   rw[Array.setIfInBounds_comm _ _ QN]
   exact h3.2.2
theorem D1{ro:Option Nat}{Q:Exit→Act→World→Prop}(hQ:∀c a w,¬Q (.panic c) a w)(Oh:Region.noSelect all=true)(iJ:yO all=true)(p:Pt) :
  ∀(fuel:Nat) (listed:Array Bool) (a:Act) (w:World),Down all listed→p.depth≤fuel→(p.depth≠0→S w)→Kk P ro S Q all (dI all p) a w →
  (dH all true p listed=true→Qm P ro all Q S fuel listed a w) ∧
  (dH all false p listed=true→∀i∈p.oK,∃g,fuel=g+1∧wpOpIn (fw ro) 0 P all Q i (fun a' w'=>(S w'∨nq all i=true)∧Qm P ro all Q S g (listed.setIfInBounds i true) a' w') a w):=by
 induction p with
 | nil =>
  intro fuel listed a w hd hf hS h
  refine⟨fun hp=>?_,fun hp=>by simp[dH]at hp⟩
  simp only[dH,Bool.true_and,List.isEmpty_iff]at hp
  cases fuel with
  | zero=>exact⟨hp,h⟩
  | succ g=>exact⟨fun _=>h,by rw[hp];simp⟩
 | st i p ih =>
  intro fuel listed a w hd hf hS h
  refine⟨fun hp=>?_,fun hp=>by simp[dH]at hp⟩
  obtain⟨fuel,rfl⟩:∃g,fuel=g+1:=⟨fuel-1,by simp[Pt.depth]at hf;omega⟩
  have Ky:p.depth≤fuel:=by simp[Pt.depth]at hf;omega
  have hSw:=hS (by simp[Pt.depth])
  simp only[dH,Bool.true_and,Bool.and_eq_true,decide_eq_true_eq]at hp
  obtain⟨⟨⟨hi,CH⟩,E9⟩,qv⟩:=hp
  have ho:all[i]?=some all[i]:=by simp[hi]
  have ho':all.toList[i]?=some all[i]:=by simp[hi]
  have xD:i∈Region.ready .any all listed:=by simpa using E9
  simp only[dI,ho',Kk]at h
  have hq:∀(v:Value),∀c (a:Act) w,Q (.panic c) (a.put all[i].dst v) w→Q (.panic c) a w:=fun v c a w hq=>(hQ c _ w hq).elim
  rcases h with⟨hg,⟨_,v,hv,h⟩|⟨hm,_⟩⟩|⟨_,hw,h⟩
  ·have Cw:Region.wanted all[i] (yielded all a.tmps)=true:=hg.elim iK id
   exact yn ho (Region.noSelect_spec Oh) iJ (hq v) fuel listed a w hd (Region.free_spec ho CH) xD (.inl ⟨Cw,hv⟩) hSw ((ih fuel _ _ w (hd.set xD) Ky (fun _=>hSw) h).1 qv)
  ·cases hm
  ·exact yn ho (Region.noSelect_spec Oh) iJ (hq undef) fuel listed a w hd (Region.free_spec ho CH) xD (.inr ⟨hw,rfl⟩) hSw ((ih fuel _ _ w (hd.set xD) Ky (fun _=>hSw) h).1 qv)
 | act i p ih =>
  intro fuel listed a w hd hf hS h
  obtain⟨fuel,rfl⟩:∃g,fuel=g+1:=⟨fuel-1,by simp[Pt.depth]at hf;omega⟩
  have Ky:p.depth≤fuel:=by simp[Pt.depth]at hf;omega
  have hSw:=hS (by simp[Pt.depth])
  have key:i∈Region.ready .any all listed→i<all.size→((!p.isNil || nq all i)=true)→dH all true p (listed.setIfInBounds i true)=true →
    wpOpIn (fw ro) 0 P all Q i (fun a' w'=>(S w'∨nq all i=true)∧Qm P ro all Q S fuel (listed.setIfInBounds i true) a' w') a w:=by
   intro xD hi lB qv
   have ho:all[i]?=some all[i]:=by simp[hi]
   have ho':all.toList[i]?=some all[i]:=by simp[hi]
   simp only[dI,ho',Kk]at h
   unfold wpOpIn
   simp only[ho]
   rcases h with⟨hg,⟨hm,_⟩|⟨_,hw⟩⟩|⟨_,hw,h⟩
   ·cases hm
   ·have Cw:Region.wanted all[i] (yielded all a.tmps)=true:=hg.elim iK id
    simp only[Cw,if_true]
    refine Oper.wpIn_mono (fun a' w' h'=>?_) hw
    cases p with
    | nil=>exact⟨.inr (by simpa[Pt.isNil]using lB),(ih fuel _ a' w' (hd.set xD) Ky (fun h=>absurd rfl h) h'.2).1 qv⟩
    | st j q =>
     have MO:S w':=by
      have:=h'.1
      simp only[dI]at this
      have hj:j<all.size:=by simp only[dH,Bool.true_and,Bool.and_eq_true,decide_eq_true_eq]at qv;exact qv.1.1.1
      have pG:all.toList[j]?=some all[j]:=by simp[hj]
      simp only[pG]at this
      exact this
     exact⟨.inl MO,(ih fuel _ a' w' (hd.set xD) Ky (fun _=>MO) h'.2).1 qv⟩
    | act j q =>
     have MO:S w':=by
      have:=h'.1
      simp only[dI]at this
      have hj:j<all.size:=by simp only[dH,Bool.and_eq_true,decide_eq_true_eq]at qv;exact qv.1.1.2
      have pG:all.toList[j]?=some all[j]:=by simp[hj]
      simp only[pG]at this
      exact this
     exact⟨.inl MO,(ih fuel _ a' w' (hd.set xD) Ky (fun _=>MO) h'.2).1 qv⟩
    | fork l r =>
     have MO:S w':=h'.1
     exact⟨.inl MO,(ih fuel _ a' w' (hd.set xD) Ky (fun _=>MO) h'.2).1 qv⟩
   ·simp only[hw,Bool.false_eq_true,if_false]
    exact⟨fun _ _=>trivial,.inl hSw,(ih fuel _ _ w (hd.set xD) Ky (fun _=>hSw) h).1 qv⟩
  constructor
  ·intro hp
   simp only[dH,Bool.and_eq_true,decide_eq_true_eq,Bool.not_true,Bool.false_or]at hp
   obtain⟨⟨⟨⟨eY,E9⟩,hi⟩,lB⟩,qv⟩:=hp
   have xD:i∈Region.ready .any all listed:=by simpa using E9
   refine⟨fun h0=>(by rw[h0]at xD;cases xD),fun j hj=>?_⟩
   simp_all
  grind [dH,Pt.oK]
 | fork l r ihl ihr =>
  intro fuel listed a w hd hf hS h
  simp only[Pt.depth]at hf hS
  simp only[dI,Kk]at h
  have h1:=ihl fuel listed a w hd aj (fun h0=>hS aj) h.1
  have h2:=ihr fuel listed a w hd aj (fun h0=>hS aj) h.2
  have key:dH all false l listed=true→dH all false r listed=true→∀i∈l.oK++r.oK,∃g,fuel=g+1∧wpOpIn (fw ro) 0 P all Q i (fun a' w'=>(S w'∨nq all i=true)∧Qm P ro all Q S g (listed.setIfInBounds i true) a' w') a w:=by
   intro hl hr i hi
   rcases List.mem_append.1 hi with hi|hi
   ·exact h1.2 hl i hi
   ·exact h2.2 hr i hi
  constructor
  ·intro hp
   simp only[dH,Bool.and_eq_true,Bool.not_true,Bool.false_or]at hp
   obtain⟨⟨eY,hl⟩,hr⟩:=hp
   have gf:∀ {q:Pt},dH all false q listed=true→∃i∈q.oK,i∈Region.ready .any all listed:=by
    intro q hq
    induction q with
    | nil=>simp[dH]at hq
    | st=>simp[dH]at hq
    | act i p=>simp only[dH,Bool.and_eq_true]at hq;exact⟨i,by simp[Pt.oK],by simpa using hq.1.1.1.2⟩
    | fork a b iha ihb =>
     grind [dH,Pt.oK]
   obtain⟨i0,Jb,hr0⟩:=gf hl
   obtain⟨g,rfl,_⟩:=key hl hr i0 (List.mem_append_left _ Jb)
   refine⟨fun h0=>(by rw[h0]at hr0;cases hr0),fun j hj=>?_⟩
   simp_all
  ·intro hp
   simp only[dH,Bool.and_eq_true]at hp
   exact fun i hi=>key hp.1.2 hp.2 i hi
def Down.start(ops:Array Oper):Down ops (Array.replicate ops.size false):=by
 refine⟨by simp,fun i hi h=>?_⟩
 simp[hi]at h
def aa5{id:Nat}{ops:Array Oper}(S:World→Prop)(cu:Pt)(hm:P.follows .mixedOrders=true)(Oh:Region.noSelect ops=true)(hp:(yO ops && (Nat.ble cu.depth ops.size && dH ops true cu (Array.replicate ops.size false)))=true)(hS:∀w,Sat G w H→S w)(h:J P f n R G S ops (dI ops cu) k L H):K P f n R G (.code (.region id ops true)::k) L H :=
 ad7 fun a w ha hw=>by
  simp only[Bool.and_eq_true]at hp
  have lA:Sat G { w with drawn:=w.drawn+1 } H:=hw.draw _
  exact wpIn_region_any hm (qy _ _ _ _ ((D1 (fun _ _ _ h=>h) Oh hp.1 cu ops.size _ a _ (Down.start ops) (Nat.le_of_ble_eq_true hp.2.1) (fun _=>hS _ lA) (h a _ ha lA (Sx.of (hS _ lA)))).1 hp.2.2))
inductive afK where
 | mk (k:List Item)
def fU:Nat→List Item→afK
 | 0,k => .mk k
 | i+1,k=>match k with
  | .code .skip::k'=>fU i k'
  | .code (.label _)::k'=>fU i k'
  | .inBlock _::k'=>fU i k'
  | .code (.seq a b)::k'=>fU i (.code a :: .code b::k')
  | .code (.block id b)::k'=>fU i (.code b :: .inBlock id::k')
  | .code (.exit id)::k'=>match exitTo id k' with
   | some k''=>fU i k''
   | none => .mk k
  | _ => .mk k
def eU(i:Nat):∀ {k k':List Item},fU i k = .mk k'→K P f n R G k' L H→K P f n R G k L H:=by
 induction i with
 | zero=>intro k k' h hk;simp only[fU]at h;cases h;exact hk
 | succ i ih =>
  intro k k' h hk
  simp only[fU]at h
  split at h
  ·exact l3 (fun a cs w=>stepR_skip) (ih h hk)
  ·exact l3 (fun a cs w=>stepR_label) (ih h hk)
  ·exact l3 (fun a cs w=>stepR_inBlock) (ih h hk)
  ·exact l3 (fun a cs w=>stepR_seq) (ih h hk)
  ·exact l3 (fun a cs w=>stepR_block) (ih h hk)
  ·split at h
   ·rename_i hx;exact l3 (fun a cs w=>stepR_exit hx) (ih h hk)
   ·cases h;exact hk
  ·cases h;exact hk
def AZ{c:Operand}{t e:Code}{b:Bool}(hc:ev L c=some (.bool b))(ht:b=true→K P f n R G (.code t::k) L H)(he:b=false→K P f n R G (.code e::k) L H) :
  K P f n R G (.code (.cond c t e)::k) L H:=by
 intro a w ha hw cs
 have hs:=stepR_cond (P:=P) (b:=({ (default:Frame)with fn:=f,kind := .normal,roundOf:=G.ro }:Frame)) (k:=k) (cs:=cs) (w:=w) (x:=t) (y:=e) (ha.ev hc)
 cases b with
 | true=>exact(ht rfl a w ha hw cs).of_steps (.one hs)
 | false=>exact(he rfl a w ha hw cs).of_steps (.one hs)
def aN{k0:List Item}{id:Nat}{ops:Array Oper}(hk:fU 1000 k0 = .mk (.code (.region id ops false)::k))(h:J P f n R G (fun _=>True) ops (items ops.toList) k L H):K P f n R G k0 L H :=
 eU 1000 hk (NK h)
def aO{k0:List Item}{id:Nat}{ops:Array Oper}(S:World→Prop)(cu:Pt)(hk:fU 1000 k0 = .mk (.code (.region id ops true)::k))(hm:P.follows .mixedOrders=true)(Oh:Region.noSelect ops=true)(hp:(yO ops && (Nat.ble cu.depth ops.size && dH ops true cu (Array.replicate ops.size false)))=true)(hS:∀w,Sat G w H→S w)(h:J P f n R G S ops (dI ops cu) k L H):K P f n R G k0 L H:=eU 1000 hk (aa5 S cu hm Oh hp hS h)
def ep{k0:List Item}{c:Operand}{t e:Code}{b:Bool}(hk:fU 1000 k0 = .mk (.code (.cond c t e)::k))(hc:ev L c=some (.bool b))(ht:b=true→K P f n R G (.code t::k) L H)(he:b=false→K P f n R G (.code e::k) L H):K P f n R G k0 L H:=eU 1000 hk (AZ hc ht he)
def AY{k0:List Item}{c:Operand}{t e:Code}(hk:fU 1000 k0 = .mk (.code (.cond c t e)::k))(hc:ev L c=some (.bool true))(h:K P f n R G (.code t::k) L H):K P f n R G k0 L H:=eU 1000 hk (AZ hc (fun _=>h) (fun h=>by cases h))
def jY{k0:List Item}{c:Operand}{t e:Code}(hk:fU 1000 k0 = .mk (.code (.cond c t e)::k))(hc:ev L c=some (.bool false))(h:K P f n R G (.code e::k) L H):K P f n R G k0 L H:=eU 1000 hk (AZ hc (fun h=>by cases h) (fun _=>h))
def aD{k0:List Item}{c:Operand}{t e:Code}{p:Prop}[Decidable p](hk:fU 1000 k0 = .mk (.code (.cond c t e)::k))(hc:ev L c=some (.bool (decide p)))(ht:p→K P f n R G (.code t::k) L H)(he:¬p→K P f n R G (.code e::k) L H):K P f n R G k0 L H :=
 eU 1000 hk (AZ hc (fun h=>ht (of_decide_eq_true h)) (fun h=>he (of_decide_eq_false h)))
def bj{α:Type}{k0:List Item}{c:Code}(I:α→Prop)(μ:α→Nat)(Lf:α→eC)(Hf:α→List HP)(x0:α)(h0:I x0)(hk:fU 1000 k0 = .mk (.code (.loop c)::k))(hL:∀t v,dp (Lf x0) t=some v→dp L t=some v)(hH:ak H (Hf x0))(round:∀x,I x→(∀y,I y→μ y < μ x→K P f n R G (.inLoop c::k) (Lf y) (Hf y))→K P f n R G (.code c :: .inLoop c::k) (Lf x) (Hf x)):K P f n R G k0 L H:=by
 have key:∀m x,I x→μ x=m→K P f n R G (.code c :: .inLoop c::k) (Lf x) (Hf x):=by
  intro m
  induction m using Nat.strongRecOn with
  | _ m ih =>
   intro x hI hx
   refine round x hI fun y hy cB=>l3 (fun a cs w=>stepR_inLoop) (ih (μ y) (hx ▸ cB) y hy rfl)
 exact eU 1000 hk (l3 (fun a cs w=>stepR_loop) (HC hL (ai hH (key _ x0 h0 rfl))))
def aK{α:Type}{I:α→Prop}{c:Code}{k0:List Item}{Lf:α→eC}{Hf:α→List HP}{q:α→Prop}(ih:∀y,I y→q y→K P f n R G (.inLoop c::k) (Lf y) (Hf y))(y:α)(hk:fU 1000 k0 = .mk (.inLoop c::k))(hI:I y)(hq:q y)(hL:∀t v,dp (Lf y) t=some v→dp L t=some v)(hH:ak H (Hf y)):K P f n R G k0 L H :=
 eU 1000 hk (HC hL (ai hH (ih y hI hq)))
def vk(L:eC):List ResultVar→List Value→JW
 | [],acc=>Ax acc []
 | .tmp t::xs,acc=>match dp L t with
  | some v=>vk L xs (v::acc)
  | none => .no
 | .cell _ _::_,_ => .no
def dJ:List Value→Value
 | [v]=>v
 | vs => .tuple vs.toArray
def zX(tmps:Array Value):ResultVar→Sem Value
 | .tmp t=>pure (tmps.getD t undef)
 | .cell a t=>do loadVar t (← asAddr (tmps.getD a undef))
def mY(fn:Func)(tmps:Array Value):results fn tmps=(fn.results.mapM (zX tmps) >>= fun vs=>pure (if h:vs.size=1 then vs[0]else .tuple vs)):=by
 unfold results
 congr 1
def Li{a:Act}(ha:Has n L a)(xs:List ResultVar)(acc vs:List Value)(h:vk L xs acc = .mk vs)(w:World) :
  ∃us,vs=acc.reverse++us∧(xs.mapM (m:=Sem) (zX a.tmps)).run P w = .ok us w:=by
 induction xs generalizing acc with
 | nil=>have:=px _ _ _ h;exact⟨[],by simpa using this,rfl⟩
 | cons x xs ih =>
  cases x with
  | cell p t=>cases h
  | tmp t =>
   simp only[vk]at h
   split at h
   ·rename_i v hv
    obtain⟨us,Oe,nX⟩:=ih _ h
    refine⟨v::us,by rw[Oe];simp,?_⟩
    have hg:a.tmps.getD t undef=v:=by simp[Array.getD_eq_getD_getElem?,ha.2.2 t v hv]
    simp only[List.mapM_cons,zX,Sem.run_bind,Sem.run_pure,hg,Result.andThen_ok,nX]
   ·cases h
def tl{a:Act}{fn:Func}(ha:Has n L a)(vs:List Value)(h:vk L fn.results.toList [] = .mk vs)(w:World):(results fn a.tmps).run P w = .ok (dJ vs) w:=by
 obtain⟨us,Oe,nX⟩:=Li (P:=P) ha fn.results.toList [] vs h w
 simp only[List.reverse_nil,List.nil_append]at Oe
 subst Oe
 rw[mY,Array.mapM_eq_mapM_toList]
 simp only[Sem.run_bind,Sem.run_map,nX,Result.andThen_ok,Sem.run_pure]
 congr 1
 match vs with
 | []=>rfl
 | [v]=>rfl
 | v::u::vs=>simp[dJ]
def oH(ds:List Nat):∀(fr:Frame) (cs:List Frame) (w:World),fr.mode = .returning→fr.defers=ds.map mark→(∃F,Sat G w (ds.map (fun r=>ag r (.deferred (some [])))++F)∧F=H) →
  ∃w',Sat G w' H∧Steps P (lone fr cs w) (lone { fr with defers:=[] } cs w'):=by
 induction ds with
 | nil =>
  rintro fr cs w hm hd⟨F,hw,rfl⟩
  refine⟨w,hw,?_⟩
  have:({ fr with defers:=[] }:Frame)=fr:=by simp only[List.map_nil]at hd;rw[← hd]
  rw[this];exact .refl P _
 | cons r ds ih =>
  rintro fr cs w hm hd⟨F,hw,rfl⟩
  have hg:w.heap[r]?=some (.deferred (some [])):=hw.get (i:=0) rfl
  have hk:(Instr.takeDeferred r).run P w = .ok [] { w with heap:=w.heap.setIfInBounds r (.deferred none) }:=by
   have h1:(getObj r).run P w = .ok (.deferred (some [])) w:=by simp[getObj,Sem.run,hg]
   have h2:(setObj r (.deferred none)).run P w = .ok () { w with heap:=w.heap.setIfInBounds r (.deferred none) }:=by simp[setObj,Sem.run,hg]
   simp[Instr.takeDeferred,Sem.run_bind,h1,h2,Result.andThen]
  have hs:=step_collected (P:=P) (cs:=cs) (fr:=fr) (by rw[hm];simp) hd rfl hk
  have lA:Sat G { w with heap:=w.heap.setIfInBounds r (.deferred none) } (ds.map (fun r=>ag r (.deferred (some [])))++F):=hw.zS.cp (ak.drop _ _)
  obtain⟨w',h1,h2⟩:=ih { fr with defers:=[]++ds.map mark } cs _ hm rfl ⟨F,lA,rfl⟩
  exact⟨w',h1,(Steps.trans (.one hs) h2)⟩
def Q9{fn:Func}(I1:G.ro=none)(hf:P.funcs[f]?=some fn)(vs:List Value)(hr:vk L fn.results.toList [] = .mk vs){H':List HP}(he:ak H (G.ds.map (fun r=>ag r (.deferred (some [])))++H'))(h:∀w,Sat G w H'→R (.returned (dJ vs)) w):K P f n R G (.code .ret::k) L H:=by
 intro a w ha hw cs
 rw[I1]
 obtain⟨w',lA,hs⟩:=oH (P:=P) G.ds { bf none f a (.code .ret::k)with mode := .returning } cs w rfl ha.2 ⟨H',hw.cp he,rfl⟩
 exact⟨_,w',_,h w' lA,Steps.trans (.one (stepR_ret rfl)) hs,rfl,rfl,rfl,rfl,fn,hf,tl ha.1 vs hr w'⟩
def NL{fn:Func}(I1:G.ro=none)(hf:P.funcs[f]?=some fn)(vs:List Value)(hr:vk L fn.results.toList [] = .mk vs){H':List HP}(he:ak H (G.ds.map (fun r=>ag r (.deferred (some [])))++H'))(h:∀w,Sat G w H'→R (.returned (dJ vs)) w):K P f n R G [] L H:=by
 intro a w ha hw cs
 rw[I1]
 obtain⟨w',lA,hs⟩:=oH (P:=P) G.ds { bf none f a []with mode := .returning } cs w rfl ha.2 ⟨H',hw.cp he,rfl⟩
 exact⟨_,w',_,h w' lA,Steps.trans (.one (stepR_end rfl)) hs,rfl,rfl,rfl,rfl,fn,hf,tl ha.1 vs hr w'⟩
end
def hG(fn:Func):Bool:=fn.body.isSome && !(fn.name == "runtime.NumGoroutine")
def aw(P:Program)(f:FuncId)(args:List Value)(Pre:List HP)(Post:Value→List HP→Prop):Prop :=
 (P.funcs[f]?.map hG=some true) ∧
 ∀G w F,Sat G w (Pre++F)→Calls P f args.toArray w fun e w'=>∃v H,e = .returned v∧Post v H∧Sat G w' (H++F)
def Ends(R:Ending→World→Prop)(G:cg)(F:List HP)(Post:Value→List HP→Prop):Prop :=
 (G.ro=none∧G.ds=[])∧∀v H w,Post v H→Sat G w (H++F)→R (.returned v) w
inductive afJ where
 | mk (L:eC)
def LH:Nat→List Value→eC→afJ
 | _,[],L => .mk L
 | i,v::vs,L=>LH (i+1) vs ((i,v)::L)
theorem Jv(vs:List Value):∀(i:Nat) (L0 L:eC),LH i vs L0 = .mk L→∀t v,dp L t=some v→(i≤t∧vs[t-i]?=some v)∨dp L0 t=some v:=by
 induction vs with
 | nil=>intro i L0 L h t v hv;simp only[LH]at h;cases h;exact .inr hv
 | cons u vs ih =>
  intro i L0 L h t v hv
  rcases ih (i+1) _ L h t v hv with⟨h1,h2⟩|h2
  ·grind
  ·simp only[dp]at h2
   cases hb:Nat.beq i t with
   | true =>
    simp_all
   | false =>
    grind
theorem aw.enter{P:Program}{f:FuncId}{fn:Func}{c:Code}{n:Nat}{args:List Value}{L:eC}{Pre:List HP}{Post:Value→List HP→Prop}(hf:P.funcs[f]?=some fn)(hc:hG fn=true)(hb:fn.body=some c)(hn:fn.ntmps=n)(hp:LH 0 args [] = .mk L)(hlen:Nat.ble args.length n=true)(h:∀G F R,Ends R G F Post→K P f n R G [.code c] L (Pre++F)):aw P f args Pre Post:=by
 refine⟨by rw[hf];simp[hc],fun G w F hw cs=>?_⟩
 have afP:=Nat.le_of_ble_eq_true hlen
 have hk:=h { G with ro:=none,ds:=[] } F (fun e w'=>∃v H,e = .returned v∧Post v H∧Sat G w' (H++F)) ⟨⟨rfl,rfl⟩,fun v H w' hp hs=>⟨v,H,rfl,hp,hs⟩⟩
 have ha:Has n L { tmps:=args.toArray++Array.replicate (n-args.toArray.size) undef,defers:=[] }:=by
  refine⟨by simp;omega,trivial,fun t v hv=>?_⟩
  rcases Jv args 0 [] L hp t v hv with⟨_,h2⟩|h2
  ·grind
  ·cases h2
 have Fh:Frame.enter P f args.toArray .normal=bf none f { tmps:=args.toArray++Array.replicate (n-args.toArray.size) undef,defers:=[] } [.code c]:=by
  simp[Frame.enter,Frame.atR,bf,hf,hb,hn]
 rw[Fh]
 exact hk _ w ⟨ha,rfl⟩ hw cs
def aL{P:Program}{f:FuncId}{n:Nat}{R:Ending→World→Prop}{G:cg}{k k0:List Item}{L:eC}{H:List HP}{fn:Func}{F:List HP}{Post:Value→List HP→Prop}(hR:Ends R G F Post)(hf:P.funcs[f]?=some fn)(hk:fU 1000 k0 = .mk (.code .ret::k))(vs:List Value)(hr:vk L fn.results.toList [] = .mk vs){Hq:List HP}(hp:Post (dJ vs) Hq)(he:ak H (Hq++F)):K P f n R G k0 L H :=
 eU 1000 hk (Q9 hR.1.1 hf vs hr (by rw[hR.1.2];exact he) fun w hw=>hR.2 _ _ w hp hw)
def bB{P:Program}{f:FuncId}{n:Nat}{R:Ending→World→Prop}{G:cg}{k0:List Item}{L:eC}{H:List HP}{fn:Func}{F:List HP}{Post:Value→List HP→Prop}(hR:Ends R G F Post)(hf:P.funcs[f]?=some fn)(hk:fU 1000 k0 = .mk [])(vs:List Value)(hr:vk L fn.results.toList [] = .mk vs){Hq:List HP}(hp:Post (dJ vs) Hq)(he:ak H (Hq++F)):K P f n R G k0 L H :=
 eU 1000 hk (NL hR.1.1 hf vs hr (by rw[hR.1.2];exact he) fun w hw=>hR.2 _ _ w hp hw)
def mI{P:Program}{f:FuncId}{n:Nat}{R:Ending→World→Prop}{G:cg}{ds:List Nat}{k k0:List Item}{L:eC}{H:List HP}{fn:Func}{F:List HP}{Post:Value→List HP→Prop}(hR:Ends R G F Post)(hf:P.funcs[f]?=some fn)(hk:fU 1000 k0 = .mk (.code .ret::k))(vs:List Value)(hr:vk L fn.results.toList [] = .mk vs){Hq:List HP}(hp:Post (dJ vs) Hq)(he:ak H (ds.map (fun r=>ag r (.deferred (some [])))++(Hq++F))):K P f n R { G with ds:=ds } k0 L H :=
 eU 1000 hk (Q9 hR.1.1 hf vs hr he fun w hw=>hR.2 _ _ w hp hw)
def F8{P:Program}{f:FuncId}{n:Nat}{R:Ending→World→Prop}{G:cg}{ds:List Nat}{k0:List Item}{L:eC}{H:List HP}{fn:Func}{F:List HP}{Post:Value→List HP→Prop}(hR:Ends R G F Post)(hf:P.funcs[f]?=some fn)(hk:fU 1000 k0 = .mk [])(vs:List Value)(hr:vk L fn.results.toList [] = .mk vs){Hq:List HP}(hp:Post (dJ vs) Hq)(he:ak H (ds.map (fun r=>ag r (.deferred (some [])))++(Hq++F))):K P f n R { G with ds:=ds } k0 L H :=
 eU 1000 hk (NL hR.1.1 hf vs hr he fun w hw=>hR.2 _ _ w hp hw)
theorem ak.fin{H pre rest F:List HP}(is:List Nat)(m:Nat)(h:qO is [] H [] = .mk pre rest)(hd:rest.drop m=F):ak H (pre++F):=by
 refine(ak.pick is h).trans ?_
 have jT:∀(m:Nat) (l:List HP),ak l (l.drop m):=by
  intro m
  induction m with
  | zero=>exact fun l=>ak.refl _
  | succ m ih =>
   intro l
   cases l with
   | nil=>exact ak.refl _
   | cons A l=>exact(ak.drop A l).trans (ih l)
 subst hd
 intro h hs
 have:=kU hs
 obtain⟨h',s,Qz⟩:=ou (jT m rest) this
 grind [gF]
def cM:Nat→Nat→Pt→Pt
 | _,0,p=>p
 | a,n+1,p => .st a (cM (a+1) n p)
end Go.SL
namespace Go.SL
structure Ty where
 fe:TypeDesc
 info:TypeInfo
inductive Tr where
 | leaf
 | node (k:Nat) (v:Ty) (l r:Tr)
def Tr.get:Tr→Nat→Option Ty
 | .leaf,_=>none
 | .node k v l r,t=>bif Nat.beq t k then some v else bif Nat.blt t k then l.get t else r.get t
def Tr.Good(P:Program):Tr→Prop
 | .leaf=>True
 | .node k v l r=>(P.underlying k=some v.fe∧P.info? k=some v.info)∧l.Good P∧r.Good P
class eO (P:Program) (U:outParam Tr):Prop where
 wi:U.Good P
def Tr.CW{P:Program}{U:Tr}(h:U.Good P)(t:Nat)(ty:Ty)(hg:U.get t=some ty):P.underlying t=some ty.fe∧P.info? t=some ty.info:=by
 induction U with
 | leaf=>simp[Tr.get]at hg
 | node k v l r ihl ihr =>
  simp only[Tr.get]at hg
  cases hb:Nat.beq t k with
  | true =>
   have:=Nat.eq_of_beq_eq_true hb
   subst this
   simp only[hb,cond_true]at hg
   cases hg
   exact h.1
  | false =>
   simp only[hb,cond_false]at hg
   cases hl:Nat.blt t k with
   | true=>simp only[hl,cond_true]at hg;exact ihl h.2.1 hg
   | false=>simp only[hl,cond_false]at hg;exact ihr h.2.2 hg
section
variable{P:Program}{U:Tr}[hU:eO P U]
def iL{t:Nat}{ty:Ty}(h:U.get t=some ty):P.underlying t=some ty.fe:=(Tr.CW hU.wi t ty h).1
def O1{t:Nat}{ty:Ty}(h:U.get t=some ty):P.info? t=some ty.info:=(Tr.CW hU.wi t ty h).2
def run_underlying{t:Nat}{ty:Ty}(h:U.get t=some ty)(w:World):(underlying t).run P w = .ok ty.fe w:=by
 simp[underlying,iL (P:=P) h]
def run_typeInfo{t:Nat}{ty:Ty}(h:U.get t=some ty)(w:World):(typeInfo t).run P w = .ok ty.info w:=by
 simp[typeInfo,O1 (P:=P) h]
def run_sizeOf{t:Nat}{ty:Ty}(h:U.get t=some ty)(w:World):(sizeOf t).run P w = .ok ty.info.size w:=by
 simp[sizeOf,run_typeInfo h]
def Ty.isAgg(ty:Ty):Bool:=match ty.fe with
 | .struct _=>true
 | .array _ _=>true
 | _=>false
def o7{t:Nat}{ty:Ty}(h:U.get t=some ty)(w:World):(isAgg t).run P w = .ok ty.isAgg w:=by
 simp only[isAgg,Sem.run_bind,run_underlying h,Result.andThen_ok,Ty.isAgg]
 cases ty.fe <;> rfl
def cY{t:Nat}{ty:Ty}{z:Value}(h:U.get t=some ty)(hz:ty.info.zero=some z)(w:World):(zeroValue t).run P w = .ok z w:=by
 simp[zeroValue,run_typeInfo h,hz]
end
def bU{α:Type}:List α→Nat→Option α
 | [],_=>none
 | x::_,0=>some x
 | _::l,i+1=>bU l i
def de{α:Type}(l:List α)(i:Nat):bU l i=l[i]? := by
 induction l generalizing i with
 | nil=>simp[bU]
 | cons x l ih=>cases i <;> simp[bU,ih]
def Qt:IntKind→Nat
 | .i8=>0 | .i16=>1 | .i32=>2 | .i64=>3 | .u8=>4 | .u16=>5 | .u32=>6 | .u64=>7
def O0{j k:IntKind}(h:Nat.beq (Qt j) (Qt k)=true):j=k:=by
 cases j <;> cases k <;> first|rfl|(revert h;decide)
def Q3(a b:ByteArray):Bool:=a.data.toList == b.data.toList
def ltS(a b:ByteArray):Bool:=Op.bytesLess a.data.toList b.data.toList
def pI:BinOp→Int→Int→Option Bool
 | .eql,a,b=>some (decide (a=b))
 | .neq,a,b=>some (decide (a≠b))
 | .lss,a,b=>some (decide (a<b))
 | .leq,a,b=>some (decide (a≤b))
 | .gtr,a,b=>some (decide (b<a))
 | .geq,a,b=>some (decide (b≤a))
 | _,_,_=>none
def adV:BinOp→ByteArray→ByteArray→Option Bool
 | .eql,a,b=>some (Q3 a b)
 | .neq,a,b=>some (!(Q3 a b))
 | .lss,a,b=>some (ltS a b)
 | .leq,a,b=>some (ltS a b || Q3 a b)
 | .gtr,a,b=>some (!(ltS a b || Q3 a b))
 | .geq,a,b=>some (!(ltS a b))
 | _,_,_=>none
def Na:BinOp→IntKind→Int→Int→Option Int
 | .and,k,a,b=>some (k.wrap ((BitVec.ofInt k.bits a &&& BitVec.ofInt k.bits b).toNat:Int))
 | .or,k,a,b=>some (k.wrap ((BitVec.ofInt k.bits a ||| BitVec.ofInt k.bits b).toNat:Int))
 | .xor,k,a,b=>some (k.wrap ((BitVec.ofInt k.bits a ^^^ BitVec.ofInt k.bits b).toNat:Int))
 | .andNot,k,a,b=>some (k.wrap ((BitVec.ofInt k.bits a &&& ~~~ BitVec.ofInt k.bits b).toNat:Int))
 | _,_,_,_=>none
def Q6(op:BinOp)(k:IntKind)(a b:Int):Option Int:=bif Nat.beq (Qt k) 6 then none else Na op k a b
def zg:TypeDesc→Value→Value→Option Bool
 | .pointer _,.pointer none,.pointer none=>some true
 | .pointer _,.pointer none,.pointer (some _)=>some false
 | .pointer _,.pointer (some _),.pointer none=>some false
 | .slice _,.slice none _ _,.slice none _ _=>some true
 | .slice _,.slice (some _) _ _,.slice none _ _=>some false
 | .slice _,.slice none _ _,.slice (some _) _ _=>some false
 | .map _ _,.map none,.map none=>some true
 | .map _ _,.map (some _),.map none=>some false
 | .map _ _,.map none,.map (some _)=>some false
 | .func _ _ _,.nilFunc,.nilFunc=>some true
 | .func _ _ _,.func _ _ _,.nilFunc=>some false
 | .func _ _ _,.nilFunc,.func _ _ _=>some false
 | .bool,.bool a,.bool b=>some (a == b)
 | _,_,_=>none
def eqV(U:Tr)(op:BinOp)(t:TypeId)(x y:Value):Option Bool :=
 match op with
 | .eql=>match U.get t with
  | some ty=>zg ty.fe x y
  | none=>none
 | .neq=>match U.get t with
  | some ty=>match zg ty.fe x y with
   | some b=>some (!b)
   | none=>none
  | none=>none
 | _=>none
def bg:Value→List Value
 | .agg cs=>cs.toList
 | v=>[v]
theorem cW(v:Value):v.cells=(bg v).toArray:=by cases v <;> simp[Value.cells,bg]
def lT:List Value→Nat→List Value→List Value→JW
 | acc,_,z,[]=>Ax acc z
 | acc,0,_::z,v::vs=>lT (v::acc) 0 z vs
 | acc,i+1,x::z,v::vs=>lT (x::acc) i z (v::vs)
 | _,_,[],_::_ => .no
theorem GG(vs:List Value):∀(acc:List Value) (i:Nat) (z r:List Value),lT acc i z vs = .mk r→i+vs.length≤z.length+(if vs=[]then i else 0)∧(vs≠[]→r=acc.reverse++(z.take i++vs++z.drop (i+vs.length)))∧(vs=[]→r=acc.reverse++z):=by
 have gen:∀(z vs acc:List Value) (i:Nat) (r:List Value),lT acc i z vs = .mk r→i+vs.length≤z.length+(if vs=[]then i else 0)∧(vs≠[]→r=acc.reverse++(z.take i++vs++z.drop (i+vs.length)))∧(vs=[]→r=acc.reverse++z):=by
  intro z
  induction z with
  | nil =>
   intro vs acc i r h
   cases vs with
   | nil=>cases i <;> (simp only[lT]at h;have:=px _ _ _ h;simp[this])
   | cons v vs=>cases i <;> simp[lT]at h
  | cons x z ih =>
   intro vs acc i r h
   cases vs with
   | nil=>cases i <;> (simp only[lT]at h;have:=px _ _ _ h;simp[this])
   | cons v vs =>
    cases i with
    | zero =>
     grind [lT]
    | succ i =>
     grind [lT]
 grind
def wQ(U:Tr)(L:eC)(fs:List Field):List Value→List (Nat × Operand)→Option Value
 | z,[]=>some (.agg z.toArray)
 | z,(i,x)::ps=>match bU fs i,ev L x with
  | some fd,some v=>match U.get fd.type with
   | some ft=>bif Nat.beq (bg v).length 0 then none else bif Nat.beq (bg v).length ft.info.size then
     (match lT [] fd.offset z (bg v)with
     | .mk z'=>wQ U L fs z' ps
     | .no=>none)else none
   | none=>none
  | _,_=>none
def Dd(U:Tr):List Field→Bool
 | []=>true
 | f::fs=>match U.get f.type with
  | some _=>Dd U fs
  | none=>false
def ir(U:Tr)(op:Op)(L:eC):Option Value :=
 match op with
 | .move x=>ev L x
 | .assign x=>ev L x
 | .nilCheck x=>match ev L x with
  | some (.pointer (some a))=>some (.pointer (some a))
  | some (.func (.func f) fi cap)=>some (.func (.func f) fi cap)
  | _=>none
 | .fieldAddr s x f=>match U.get s,ev L x with
  | some ty,some (.pointer (some ⟨b,o,none⟩))=>match ty.fe with
   | .struct fs=>match bU fs.toList f with
    | some fd=>match U.get fd.type with
     | some ft=>bif Nat.beq ft.info.size 0 then none else some (.pointer (some ⟨b,o+fd.offset,none⟩))
     | none=>none
    | none=>none
   | _=>none
  | _,_=>none
 | .field s x f=>match U.get s,ev L x with
  | some ty,some (.agg cs)=>match ty.fe with
   | .struct fs=>match bU fs.toList f with
    | some fd=>match U.get fd.type with
     | some ft=>bif ft.isAgg then some (.agg (cs.extract fd.offset (fd.offset+ft.info.size)))else bU cs.toList fd.offset
     | none=>none
    | none=>none
   | _=>none
  | _,_=>none
 | .extract x i=>match ev L x with
  | some (.tuple vs)=>bU vs.toList i
  | _=>none
 | .binOp op t x y _=>match ev L x,ev L y with
  | some (.int j a),some (.int k b)=>bif Nat.beq (Qt j) (Qt k)then
    (match pI op a b with
    | some c=>some (.bool c)
    | none=>match Q6 op j a b with
     | some c=>some (.int j c)
     | none=>none)else none
  | some (.string a),some (.string b)=>match adV op a b with
   | some c=>some (.bool c)
   | none=>none
  | some u,some v=>match eqV U op t u v with
   | some c=>some (.bool c)
   | none=>none
  | _,_=>none
 | .unOp op _ x=>match op,ev L x with
  | .not,some (.bool b)=>some (.bool (!b))
  | _,_=>none
 | .makeFunc fn first captured=>match DZ L first.toList [],DZ L captured.toList []with
  | .mk fs,.mk cs=>some (.func fn fs.toArray cs.toArray)
  | _,_=>none
 | .build t parts=>match U.get t with
  | some ty=>match ty.fe,ty.info.zero with
   | .struct fs,some (.agg z)=>bif Dd U fs.toList then wQ U L fs.toList z.toList parts.toList else none
   | _,_=>none
  | none=>none
 | .convert src dst x=>match U.get src,U.get dst,ev L x with
  | some s,some d,some (.string v)=>match s.fe,d.fe with
   | .string,.string=>some (.string v)
   | _,_=>none
  | _,_,_=>none
 | .call c=>match c.callee with
  | .builtin .len=>match c.argTypes.toList,c.args.toList with
   | [t],[x]=>match U.get t,ev L x with
    | some ty,some (.slice _ n _)=>match ty.fe with
     | .slice _=>some (.int .i64 n)
     | _=>none
    | some ty,some (.string s)=>match ty.fe with
     | .string=>some (.int .i64 s.size)
     | _=>none
    | _,_=>none
   | _,_=>none
  | .builtin .max=>match c.args.toList with
   | [x,y]=>match ev L x,ev L y with
    | some (.int k a),some (.int _ b)=>some (.int k (max a b))
    | _,_=>none
   | _=>none
  | .builtin .min=>match c.args.toList with
   | [x,y]=>match ev L x,ev L y with
    | some (.int k a),some (.int _ b)=>some (.int k (min a b))
    | _,_=>none
   | _=>none
  | _=>none
 | _=>none
section
variable{P:Program}{U:Tr}[hU:eO P U]{n:Nat}{L:eC}{a:Act}
def qJ{d:Nat}{t:TypeId}{ty:Ty}{x y:Value}{b:Bool}(h:U.get t=some ty)(he:zg ty.fe x y=some b)(w:World) :
  (Op.equalIn (d+1) t x y).run P w = .ok b w:=by
 unfold Op.equalIn
 simp only[Sem.run_bind,run_underlying h,Result.andThen_ok]
 unfold zg at he
 split at he <;> first|(cases he;done)|skip
 all_goals(cases he;rename_i hu _ _;first|rw[hu]|skip)
 all_goals simp_all
theorem PU{a b:ByteArray}:Q3 a b=true↔a=b:=by
 unfold Q3
 constructor
 ·intro h
  have h1:a.data.toList=b.data.toList:=by simpa using h
  cases a;cases b;simp at h1;rw[h1]
 grind
def ad0(p q:Int):(p == q)=decide (p=q):=by rw[Bool.eq_iff_iff];simp
def Aa{op:BinOp}{t yt:TypeId}{x y:Operand}{v:Value}{d:Option Tmp}{ty:TypeId}{pos:String}{af:Array Edge}{gd:Option (Nat × Bool)}(h:ir U (.binOp op t x y yt) L=some v)(ha:Has n L a)(w:World):(execOp a.eval ⟨d,.binOp op t x y yt,ty,pos,af,gd⟩).run P w = .ok (.value v) w:=by
 simp only[ir]at h
 split at h
 ·rename_i j p k q hx hy
  have ex:=ha.ev hx
  have ey:=ha.ev hy
  have hg:(eqGuard op t x y (.int j p) (.int k q)).run P w = .ok () w:=by
   unfold eqGuard;split <;> simp
  cases hk:Nat.beq (Qt j) (Qt k)with
  | false=>simp[hk]at h
  | true =>
   have:=O0 hk
   subst this
   simp only[hk,cond_true]at h
   simp only[execOp,Sem.run_bind,ex,ey,hg,Result.andThen_ok]
   cases h6:Nat.beq (Qt j) 6 <;> cases op <;> simp only[pI,Q6,Na,h6,cond_true,cond_false]at h <;> cases h <;>
    simp[binOp,Op.intCmp,Op.intBits,bne,ad0]
 ·rename_i s1 s2 hx hy
  have ex:=ha.ev hx
  have ey:=ha.ev hy
  have hg:(eqGuard op t x y (.string s1) (.string s2)).run P w = .ok () w:=by
   unfold eqGuard;split <;> simp
  simp only[execOp,Sem.run_bind,ex,ey,hg,Result.andThen_ok]
  cases op <;> simp only[adV]at h <;> cases h <;>
   simp[binOp,Op.stringOp,Q3,ltS,ByteArray.toList_eq]
 ·rename_i u v' hni Oh hx hy
  have ex:=ha.ev hx
  have ey:=ha.ev hy
  split at h
  ·rename_i c hc
   cases h
   simp only[execOp,Sem.run_bind,ex,ey]
   unfold eqV at hc
   split at hc
   ·split at hc
    ·rename_i bL ht
     have hr:=qJ (P:=P) (d:=9999) ht hc w
     unfold zg at hc
     split at hc <;> first|(cases hc;done)|(simp[eqGuard,binOp,Op.equal,Op.maxDepth,hr];done)
    ·cases hc
   ·split at hc
    ·rename_i bL ht
     split at hc
     ·rename_i b hb
      have hr:=qJ (P:=P) (d:=9999) ht hb w
      cases hc
      unfold zg at hb
      split at hb <;> first|(cases hb;done)|(simp[eqGuard,binOp,Op.equal,Op.maxDepth,hr];done)
     ·cases hc
    ·cases hc
   ·cases hc
  ·cases h
 ·cases h
theorem zb(vc:List Value):∀(i off:Nat) (cs:Array Value),off+i+vc.length≤cs.size →
  ((vc.toArray.zipIdx i).foldl (fun cs (x:Value × Nat)=>cs.setIfInBounds (off+x.2) x.1) cs).toList=cs.toList.take (off+i)++vc++cs.toList.drop (off+i+vc.length):=by
 induction vc with
 | nil =>
  intro i off cs _
  have:(([]:List Value).toArray.zipIdx i) = #[]:=by apply Array.ext';simp
  rw[this];simp
 | cons v vc ih =>
  intro i off cs h
  have h1:((v::vc).toArray.zipIdx i) = #[(v,i)]++vc.toArray.zipIdx (i+1):=by
   grind
  simp only[List.length_cons]at h
  rw[h1,Array.foldl_append]
  simp only[List.foldl_toArray,List.foldl_cons,List.foldl_nil]
  rw[ih (i+1) off _ (by simp;omega)]
  have h2:(cs.setIfInBounds (off+i) v).toList=cs.toList.set (off+i) v:=by simp
  rw[h2]
  have cB:off+i<cs.toList.length:=by simp;omega
  rw[List.set_eq_take_append_cons_drop,if_pos cB]
  rw[show off+(i+1)=off+i+1 by omega]
  have e1:(List.take (off+i) cs.toList++v::List.drop (off+i+1) cs.toList).take (off+i+1)=List.take (off+i) cs.toList++[v]:=by
   grind
  have e2:(List.take (off+i) cs.toList++v::List.drop (off+i+1) cs.toList).drop (off+i+1+vc.length)=List.drop (off+i+(v::vc).length) cs.toList:=by
   rw[List.drop_append]
   simp only[List.length_take,List.length_cons]
   rw[show min (off+i) cs.toList.length=off+i by omega]
   rw[List.drop_of_length_le (by simp;omega)]
   rw[show off+i+1+vc.length-(off+i)=vc.length+1 by omega]
   simp[show off+i+1+vc.length=off+i+(vc.length+1) by omega]
  grind
def sj(U:Tr)(t:TypeId):Nat:=match U.get t with
 | some ft=>ft.info.size
 | none=>0
def run_places(fs:List Field)(h:Dd U fs=true)(w:World) :
  (fs.mapM (m:=Sem) fun f=>do pure (f.offset,← sizeOf f.type)).run P w = .ok (fs.map fun f=>(f.offset,sj U f.type)) w:=by
 induction fs with
 | nil=>rfl
 | cons f fs ih =>
  simp only[Dd]at h
  split at h
  ·rename_i ft DX
   simp only[List.mapM_cons,Sem.run_bind,run_sizeOf DX,Result.andThen_ok,Sem.run_pure,ih h,List.map_cons,sj,DX]
  ·cases h
theorem C'(ha:Has n L a)(fs:List Field)(ps:List (Nat × Operand)):∀(z:List Value) (v:Value),wQ U L fs z ps=some v →
  ∃r,v = .agg r∧Instr.fill (fun i=>((fs.map fun f=>(f.offset,sj U f.type)).toArray)[i]?) z.toArray (ps.map fun x=>(x.1,a.eval x.2))=some r:=by
 induction ps with
 | nil=>intro z v h;simp only[wQ]at h;cases h;exact⟨_,rfl,rfl⟩
 | cons p ps ih =>
  obtain⟨i,x⟩:=p
  intro z v h
  simp only[wQ]at h
  split at h
  ·rename_i fd u hfd hu
   split at h
   ·rename_i ft DX
    cases CQ:Nat.beq (bg u).length 0 with
    | true=>simp[CQ]at h
    | false =>
    simp only[CQ,cond_false]at h
    cases hb:Nat.beq (bg u).length ft.info.size with
    | false=>simp[hb]at h
    | true =>
     simp only[hb,cond_true]at h
     split at h
     ·rename_i z' hz'
      obtain⟨r,hv,hr⟩:=ih z' v h
      refine⟨r,hv,?_⟩
      rw[de]at hfd
      simp only[List.map_cons,Instr.fill,ha.ev hu]
      have aag:((fs.map fun f=>(f.offset,sj U f.type)).toArray)[i]?=some (fd.offset,ft.info.size):=by
       grind [sj]
      simp only[aag]
      have hlen:(bg u).length=ft.info.size:=Nat.eq_of_beq_eq_true hb
      obtain⟨h1,h2,_⟩:=GG _ _ _ _ _ hz'
      have js:u.cells.size=ft.info.size:=by rw[cW];simpa using hlen
      by_cases he:bg u=[]
      ·grind
      ·have h4:=h2 he
       simp only[he,if_false,Nat.add_zero]at h1
       rw[if_neg (by simp[js];rw[← hlen];exact h1)]
       have:=zb (bg u) 0 fd.offset z.toArray (by simpa using h1)
       simp only[Nat.add_zero]at this
       have e:((bg u).toArray.zipIdx.foldl (fun cs (x:Value × Nat)=>cs.setIfInBounds (fd.offset+x.2) x.1) z.toArray)=z'.toArray:=by
        grind
       grind [cW,bg]
     ·cases h
   ·cases h
  ·cases h
theorem z7{op:Op}{v:Value}{d:Option Tmp}{ty:TypeId}{pos:String}{af:Array Edge}{gd:Option (Nat × Bool)}(h:ir U op L=some v)(ha:Has n L a)(w:World):(execOp a.eval ⟨d,op,ty,pos,af,gd⟩).run P w = .ok (.value v) w:=by
 cases op with
 | binOp op t x y yt=>exact Aa h ha w
 | move x=>simp only[ir]at h;simp[execOp,ha.ev h]
 | assign x=>simp only[ir]at h;simp[execOp,ha.ev h]
 | nilCheck x =>
  simp only[ir]at h
  split at h
  ·rename_i hx;cases h;simp[execOp,ha.ev hx]
  ·rename_i hx;cases h;simp[execOp,ha.ev hx]
  ·cases h
 | fieldAddr s x f =>
  simp only[ir]at h
  split at h
  ·rename_i bL b o hs hx
   split at h
   ·rename_i fs qw
    split at h
    ·rename_i fd hfd
     split at h
     ·rename_i ft DX
      cases hz:Nat.beq ft.info.size 0 with
      | true=>simp[hz]at h
      | false =>
       simp only[hz,cond_false]at h
       cases h
       rw[de]at hfd
       have Ky:fs[f]?=some fd:=by simpa using hfd
       have gf:ft.info.size≠0:=Nat.ne_of_beq_eq_false hz
       simp only[execOp,ha.ev hx,Instr.fieldAt,Sem.run_bind,run_underlying hs,Result.andThen_ok,qw,Ky,Instr.sureAddr,Sem.run_pure,fieldPlace,run_sizeOf DX]
       rw[if_neg gf]
       simp only[Sem.run_pure,Result.andThen_ok,Addr.add]
       grind
     ·cases h
    ·cases h
   ·cases h
  ·cases h
 | field s x f =>
  simp only[ir]at h
  split at h
  ·rename_i bL cs hs hx
   split at h
   ·rename_i fs qw
    split at h
    ·rename_i fd hfd
     split at h
     ·rename_i ft DX
      rw[de]at hfd
      have Ky:fs[f]?=some fd:=by simpa using hfd
      simp only[execOp,ha.ev hx,Instr.field,Sem.run_bind,run_underlying hs,Result.andThen_ok,qw,Ky,asAgg,Sem.run_pure,part,o7 DX]
      cases hg:ft.isAgg with
      | true =>
       simp only[hg,cond_true]at h
       cases h
       simp[run_sizeOf DX]
      | false =>
       simp only[hg,cond_false,de]at h
       simp_all
     ·cases h
    ·cases h
   ·cases h
  ·cases h
 | extract x i =>
  simp only[ir]at h
  split at h
  ·rename_i vs hx
   rw[de]at h
   have h':vs[i]?=some v:=by simpa using h
   simp[execOp,ha.ev hx,Instr.extract,h']
  ·cases h
 | unOp op t x =>
  simp only[ir]at h
  split at h
  ·rename_i b hx;cases h;simp[execOp,ha.ev hx,Op.unary]
  ·cases h
 | makeFunc fn first captured =>
  simp only[ir]at h
  split at h
  ·rename_i fs cs h1 h2
   cases h
   simp only[execOp,lF ha _ _ h1,lF ha _ _ h2,Instr.makeFunc,Sem.run_bind,Sem.run_pure,Result.andThen_ok]
  ·cases h
 | build t parts =>
  simp only[ir]at h
  split at h
  ·rename_i bL ht
   split at h
   ·rename_i fs z qw hz
    cases Aq:Dd U fs.toList with
    | false=>simp[Aq]at h
    | true =>
     simp only[Aq,cond_true]at h
     obtain⟨r,rfl,hr⟩:=C' ha _ _ _ _ h
     have hp:(fs.mapM (m:=Sem) fun f=>do pure (f.offset,← sizeOf f.type)).run P w = .ok (fs.toList.map fun f=>(f.offset,sj U f.type)).toArray w:=by
      rw[Array.mapM_eq_mapM_toList]
      simp only[Sem.run_map,run_places _ Aq,Result.andThen_ok]
     simp only[execOp,Instr.build,Sem.run_bind,cY ht hz,run_underlying ht,Result.andThen_ok,qw]
     rw[hp]
     simp only[Result.andThen_ok,Value.cells,Array.toList_map]
     simp_all
   ·cases h
  ·cases h
 | convert src dst x =>
  simp only[ir]at h
  split at h
  ·rename_i s dd sv hs hd hx
   split at h
   ·rename_i h1 h2
    cases h
    simp[execOp,ha.ev hx,convert,run_underlying hs,run_underlying hd,h1,h2]
   ·cases h
  ·cases h
 | call c =>
  obtain⟨callee,args,argTypes⟩:=c
  simp only[ir]at h
  split at h
  ·split at h
   ·rename_i t x ht hx
    have fK:args = #[x]:=by apply Array.ext';simpa using hx
    have aeJ:argTypes = #[t]:=by apply Array.ext';simpa using ht
    subst fK;subst aeJ
    split at h
    ·rename_i bL a1 m1 c1 h1 h2
     split at h
     ·rename_i hu
      cases h
      simp[execOp,resolve,invoke,builtin,Builtin.len_,ha.ev h2,run_underlying h1,hu,goInt]
     ·cases h
    ·rename_i bL s1 h1 h2
     split at h
     ·rename_i hu
      cases h
      simp[execOp,resolve,invoke,builtin,Builtin.len_,ha.ev h2,run_underlying h1,hu,goInt]
     ·cases h
    ·cases h
   ·cases h
  ·split at h
   ·rename_i x y hx
    have fK:args = #[x,y]:=by apply Array.ext';simpa using hx
    subst fK
    split at h
    ·rename_i k p k' q h1 h2
     cases h
     simp only[execOp,resolve,invoke,builtin,Builtin.max_,Sem.run_bind,Sem.run_pure,Result.andThen_ok,List.map_toArray,List.map_cons,List.map_nil,ha.ev h1,ha.ev h2,List.foldlM_cons,List.foldlM_nil,Builtin.max2]
     grind
    ·cases h
   ·cases h
  ·split at h
   ·rename_i x y hx
    have fK:args = #[x,y]:=by apply Array.ext';simpa using hx
    subst fK
    split at h
    ·rename_i k p k' q h1 h2
     cases h
     simp only[execOp,resolve,invoke,builtin,Builtin.min_,Sem.run_bind,Sem.run_pure,Result.andThen_ok,List.map_toArray,List.map_cons,List.map_nil,ha.ev h1,ha.ev h2,List.foldlM_cons,List.foldlM_nil,Builtin.min2]
     grind
    ·cases h
   ·cases h
  ·cases h
 | _=>cases h
inductive afL where
 | mk (af0:Bool) (rest:Pl) (L:eC)
def Nl(U:Tr)(n:Nat):Nat→Bool→Pl→eC→afL
 | 0,b,rest,L => .mk b rest L
 | i+1,b,rest,L=>match rest with
  | .cons _ true ⟨some d,op,_,_,_,_⟩ rs=>bif Nat.blt d n then
    (match ir U op L with
    | some v=>Nl U n i true rs ((d,v)::L)
    | none => .mk b rest L)else .mk b rest L
  | _ => .mk b rest L
end
section
variable{P:Program}{U:Tr}[hU:eO P U]{f:FuncId}{n:Nat}{R:Ending→World→Prop}{G:cg}{k:List Item}{L:eC}{H:List HP}{S:World→Prop}{all:Array Oper}{rest:Pl}
def cR{m:Bool}{d:Tmp}{op:Op}{ty:TypeId}{pos:String}{af:Array Edge}{gd:Option (Nat × Bool)}{v:Value}(hd:Nat.blt d n=true)(hv:∀a,Has n L a→∀w,(execOp a.eval ⟨some d,op,ty,pos,af,gd⟩).run P w = .ok (.value v) w)(h:J P f n R G S all rest k ((d,v)::L) H):J P f n R G S all (.cons m true ⟨some d,op,ty,pos,af,gd⟩ rest) k L H:=by
 intro a w ha hw hS
 have h1:=h _ w (ha.put hd v) hw (Sx.of hS)
 refine .inl ⟨.inl rfl,?_⟩
 cases m with
 | true=>exact .inl ⟨rfl,v,fun w _=>hv a ha.1 w,h1⟩
 | false =>
  refine .inr ⟨rfl,?_⟩
  exact fM (hv a ha.1 w) ⟨Sx.of hS,h1⟩
def aa9(i:Nat):∀ {b b':Bool} {rest vj:Pl} {L L':eC},Nl U n i b rest L = .mk b' vj L'→J P f n R G S all vj k L' H→J P f n R G S all rest k L H:=by
 induction i with
 | zero=>intro b b' rest vj L L' h hj;simp only[Nl]at h;cases h;exact hj
 | succ i ih =>
  intro b b' rest vj L L' h hj
  simp only[Nl]at h
  split at h
  ·rename_i m d op ty pos af gd rs
   cases hd:Nat.blt d n with
   | false=>simp only[hd,cond_false]at h;cases h;exact hj
   | true =>
    simp only[hd,cond_true]at h
    split at h
    ·rename_i v hv
     exact cR hd (fun a ha w=>z7 hv ha w) (ih h hj)
    ·cases h;exact hj
  ·cases h;exact hj
def DA{vj:Pl}{L':eC}(h:Nl U n 1000 false rest L = .mk true vj L')(hj:J P f n R G S all vj k L' H):J P f n R G S all rest k L H :=
 aa9 1000 h hj
end
end Go.SL
namespace Go.SL
inductive ad6 where
 | mk (H:List HP)
 | no
def PO:List HP→List HP→ad6
 | [],l => .mk l
 | x::acc,l=>PO acc (x::l)
def jI:Nat→HP→List HP→List HP→ad6
 | _,_,[],_ => .no
 | 0,A,_::l,acc=>PO acc (A::l)
 | i+1,A,B::l,acc=>jI i A l (B::acc)
def PN(acc l r:List HP)(h:PO acc l = .mk r):r=acc.reverse++l:=by
 induction acc generalizing l with
 | nil=>simp[PO]at h;simp[h]
 | cons x acc ih=>have:=ih (x::l) h;simp[this]
theorem nf(i:Nat)(A B:HP)(H acc r:List HP)(h:jI i A H acc = .mk r)(hB:bU H i=some B):r.Perm (A::(acc.reverse++H.eraseIdx i)):=by
 induction H generalizing i acc with
 | nil=>cases i <;> simp[jI]at h
 | cons C l ih =>
  cases i with
  | zero =>
   simp only[jI]at h
   rw[PN _ _ _ h]
   simp_all
  | succ i =>
   grind [jI,bU]
def Sat.put{G:cg}{w:World}{H H':List HP}{i:Nat}{b:Nat}{o o':Obj}(hs:Sat G w H)(hi:bU H i=some (ag b o))(hp:jI i (ag b o') H [] = .mk H') :
  Sat G { w with heap:=w.heap.setIfInBounds b o' } H':=by
 have h1:=hs.set (o':=o') (i:=i) (by rw[← de];exact hi)
 have h2:=nf i _ _ H [] H' hp hi
 exact h1.cp (ak.perm (by simpa using h2.symm))
def dq(h:Hp)(b off:Nat):Option Value:=match h b with
 | some (.cells c _ _)=>c[off]?
 | _=>none
def Vw(A:HP)(v:Value)(n:Nat)(cs:List Value):Prop :=
 ∃a cap,v = .slice a n cap∧(cs=[]∨∃b o,a=some ⟨b,o,none⟩∧∀h,A h→∀j c,cs[j]?=some c→dq h b (o+j)=some c)
def aH(e:TypeId)(size:Nat)(v:Value)(n:Nat)(cs:List Value):HP:=fun h =>
 cs.length=n*size∧((∃a,v = .slice a 0 0∧n=0∧emp h) ∨
  ∃b o cap pre junk,v = .slice (some ⟨b,o,none⟩) n cap∧pre.length=o∧n≤cap∧cap*size≤cs.length+junk.length∧ag b (cl (pre++cs++junk) e) h)
theorem gb{h:Hp}{w:World}{b off:Nat}{v:Value}(hw:∀b o,h b=some o→w.heap[b]?=some o)(hc:dq h b off=some v):w.cell? ⟨b,off,none⟩=some v:=by
 unfold dq at hc
 split at hc
 ·rename_i c e fr hb
  simp[World.cell?,hw b _ hb,hc]
 ·cases hc
def Sat.jM{G:cg}{w:World}{H:List HP}(hs:Sat G w H){i:Nat}{A:HP}(hi:bU H i=some A):∃h:Hp,(∀b o,h b=some o→w.heap[b]?=some o)∧A h:=by
 rw[de]at hi
 exact(hs.cp (ak.perm (cJ hi))).head
theorem Sat.rf{G:cg}{w:World}{H:List HP}(hs:Sat G w H){i:Nat}{b:Nat}{o:Obj}(hi:bU H i=some (ag b o)):w.heap[b]?=some o:=by
 rw[de]at hi
 exact hs.get hi
def qE:List Value→Nat→Nat→List Value→JW
 | l,0,0,acc=>let _:=l;Ax acc []
 | x::l,0,m+1,acc=>qE l 0 m (x::acc)
 | _::l,i+1,m,acc=>qE l i m acc
 | [],_,_,_ => .no
theorem BA:∀(l:List Value) (i m:Nat) (acc r:List Value),qE l i m acc = .mk r→r=acc.reverse++(l.drop i).take m∧i+m≤l.length:=by
 intro l
 induction l with
 | nil =>
  grind [qE,px]
 | cons x l ih =>
  intro i m acc r h
  cases i with
  | zero=>cases m with
   | zero=>simp only[qE]at h;have:=px _ _ _ h;simp[this]
   | succ m =>
    grind [qE]
  | succ i =>
   grind [qE]
section
variable{P:Program}{U:Tr}[hU:eO P U]{f:FuncId}{n:Nat}{R:Ending→World→Prop}{G:cg}{k:List Item}{L:eC}{H H':List HP}{S:World→Prop}{all:Array Oper}{rest:Pl}{ty:TypeId}{pos:String}{af:Array Edge}{gd:Option (Nat × Bool)}{m:Bool}{d:Tmp}
def lO{op:Op}(hd:Nat.blt d n=true)(q:Value→List HP→Prop)(hv:∀a w,Has n L a→Sat G w H→∃v w' H',(execOp a.eval ⟨some d,op,ty,pos,af,gd⟩).run P w = .ok (.value v) w'∧q v H'∧Sat G w' H')(hS:∀v H' w,q v H'→Sat G w H'→Sx rest S w)(h:∀v H',q v H'→J P f n R G S all rest k ((d,v)::L) H'):J P f n R G S all (.cons false true ⟨some d,op,ty,pos,af,gd⟩ rest) k L H:=by
 intro a w ha hw _
 obtain⟨v,w',H',hr,hq,lA⟩:=hv a w ha.1 hw
 refine .inl ⟨.inl rfl,.inr ⟨rfl,?_⟩⟩
 exact fM hr ⟨hS v H' w' hq lA,h v H' hq _ w' (ha.put hd v) lA (hS v H' w' hq lA)⟩
def N1{op:Op}(q:List HP→Prop)(hv:∀a w,Has n L a→Sat G w H→∃w' H',(execOp a.eval ⟨none,op,ty,pos,af,gd⟩).run P w = .ok .skip w'∧q H'∧Sat G w' H')(hS:∀H' w,q H'→Sat G w H'→Sx rest S w)(h:∀H',q H'→J P f n R G S all rest k L H'):J P f n R G S all (.cons false true ⟨none,op,ty,pos,af,gd⟩ rest) k L H:=by
 intro a w ha hw _
 obtain⟨w',H',hr,hq,lA⟩:=hv a w ha.1 hw
 refine .inl ⟨.inl rfl,.inr ⟨rfl,?_⟩⟩
 exact wpIn_skip hr ⟨hS H' w' hq lA,h H' hq a w' ha lA (hS H' w' hq lA)⟩
def iY{op:Op}{v:Value}(hd:Nat.blt d n=true)(hv:∀a w,Has n L a→Sat G w H→(execOp a.eval ⟨some d,op,ty,pos,af,gd⟩).run P w = .ok (.value v) w)(h:J P f n R G S all rest k ((d,v)::L) H):J P f n R G S all (.cons false true ⟨some d,op,ty,pos,af,gd⟩ rest) k L H:=by
 intro a w ha hw hS
 refine .inl ⟨.inl rfl,.inr ⟨rfl,?_⟩⟩
 exact fM (hv a w ha.1 hw) ⟨Sx.of hS,h _ w (ha.put hd v) hw (Sx.of hS)⟩
def jZ{op:Op}{v:Value}(hd:Nat.blt d n=true)(hv:∀a w,Has n L a→S w→(execOp a.eval ⟨some d,op,ty,pos,af,gd⟩).run P w = .ok (.value v) w)(h:J P f n R G S all rest k ((d,v)::L) H):J P f n R G S all (.cons true true ⟨some d,op,ty,pos,af,gd⟩ rest) k L H:=by
 intro a w ha hw hS
 exact .inl ⟨.inl rfl,.inl ⟨rfl,v,fun w hw=>hv a w ha.1 hw,h _ w (ha.put hd v) hw (Sx.of hS)⟩⟩
def mW{t:TypeId}{bL:Ty}{b off:Nat}{v:Value}{w:World}(ht:U.get t=some bL)(hg:bL.isAgg=false)(hc:w.cell? ⟨b,off,none⟩=some v) :
  (Instr.loadAt t (.pointer (some ⟨b,off,none⟩))).run P w = .ok v w:=by
 simp[Instr.loadAt,Instr.sureAddr,loadVar,o7 ht,hg,hc]
def ec{t:TypeId}{x:Operand}{b off:Nat}{bL:Ty}{l:List Value}{e:TypeId}{v:Value}(i:Nat)(hd:Nat.blt d n=true)(hx:ev L x=some (.pointer (some ⟨b,off,none⟩)))(hi:bU H i=some (ag b (cl l e)))(hv:bU l off=some v)(ht:U.get t=some bL)(hg:bL.isAgg=false)(h:J P f n R G S all rest k ((d,v)::L) H):J P f n R G S all (.cons false true ⟨some d,.load t x,ty,pos,af,gd⟩ rest) k L H :=
 iY hd (fun a w ha hw=>by
  have hc:w.cell? ⟨b,off,none⟩=some v:=by rw[cZ (hw.rf hi),← de];exact hv
  simp[execOp,ha.ev hx,mW ht hg hc]) h
def uL{t:TypeId}{x:Operand}{b off:Nat}{bL:Ty}{v:Value}(hd:Nat.blt d n=true)(hx:ev L x=some (.pointer (some ⟨b,off,none⟩)))(hv:∀w,S w→w.cell? ⟨b,off,none⟩=some v)(ht:U.get t=some bL)(hg:bL.isAgg=false)(h:J P f n R G S all rest k ((d,v)::L) H):J P f n R G S all (.cons true true ⟨some d,.load t x,ty,pos,af,gd⟩ rest) k L H :=
 jZ hd (fun a w ha hS=>by simp[execOp,ha.ev hx,mW ht hg (hv w hS)]) h
def uM{t:TypeId}{x:Operand}{b off:Nat}{bL:Ty}{v:Value}(hd:Nat.blt d n=true)(hx:ev L x=some (.pointer (some ⟨b,off,none⟩)))(hv:∀w,Sat G w H→w.cell? ⟨b,off,none⟩=some v)(ht:U.get t=some bL)(hg:bL.isAgg=false)(h:J P f n R G S all rest k ((d,v)::L) H):J P f n R G S all (.cons false true ⟨some d,.load t x,ty,pos,af,gd⟩ rest) k L H :=
 iY hd (fun a w ha hS=>by simp[execOp,ha.ev hx,mW ht hg (hv w hS)]) h
def gm{Hs:List HP}{t:TypeId}{x:Operand}{b off:Nat}{bL:Ty}{l:List Value}{e:TypeId}{v:Value}(i:Nat)(hd:Nat.blt d n=true)(hx:ev L x=some (.pointer (some ⟨b,off,none⟩)))(hi:bU Hs i=some (ag b (cl l e)))(hv:bU l off=some v)(ht:U.get t=some bL)(hg:bL.isAgg=false)(h:J P f n R G (fun w=>Sat G w Hs) all rest k ((d,v)::L) H):J P f n R G (fun w=>Sat G w Hs) all (.cons true true ⟨some d,.load t x,ty,pos,af,gd⟩ rest) k L H :=
 uL (U:=U) hd hx (fun w hw=>by rw[cZ (hw.rf hi),← de];exact hv) ht hg h
def gr{t:TypeId}{bL:Ty}{b off:Nat}{cs:List Value}{w:World}(ht:U.get t=some bL)(hg:bL.isAgg=true)(hl:cs.length=bL.info.size)(hc:∀j v,cs[j]?=some v→w.cell? ⟨b,off+j,none⟩=some v) :
  (Instr.loadAt t (.pointer (some ⟨b,off,none⟩))).run P w = .ok (.agg cs.toArray) w:=by
 have h1:=run_loadCells_list (P:=P) w ⟨b,off,none⟩ cs (fun j v hj=>by
  have:=hc j v hj
  unfold Addr.add
  split
  ·rename_i h0;subst h0;simpa using this
  ·simpa using this)
 simp[Instr.loadAt,Instr.sureAddr,loadVar,o7 ht,hg,run_sizeOf ht,← hl,h1]
theorem J9{t:TypeId}{x:Operand}{b off:Nat}{bL:Ty}{l:List Value}{e:TypeId}{cs:List Value}(i:Nat)(hd:Nat.blt d n=true)(hx:ev L x=some (.pointer (some ⟨b,off,none⟩)))(hi:bU H i=some (ag b (cl l e)))(ht:U.get t=some bL)(hg:bL.isAgg=true)(hv:qE l off bL.info.size [] = .mk cs)(h:J P f n R G S all rest k ((d,.agg cs.toArray)::L) H):J P f n R G S all (.cons false true ⟨some d,.load t x,ty,pos,af,gd⟩ rest) k L H :=
 iY hd (fun a w ha hw=>by
  obtain⟨h1,h2⟩:=BA _ _ _ _ _ hv
  simp only[List.reverse_nil,List.nil_append]at h1
  have hc:∀j v,cs[j]?=some v→w.cell? ⟨b,off+j,none⟩=some v:=fun j v hj=>by
   rw[cZ (hw.rf hi)]
   grind
  have:=gr (P:=P) ht hg (by rw[h1];simp;omega) hc
  simp[execOp,ha.ev hx,this]) h
theorem fm{b:Nat}{e:TypeId}:∀(vs:List Value) (i off:Nat) (l:List Value) (w:World),w.heap[b]?=some (cl l e)→off+i+vs.length≤l.length→(∀v∈vs,v.oneCell'=true) →
  (storeCells ⟨b,off,none⟩ vs i).run P w = .ok () { w with heap:=w.heap.setIfInBounds b (cl (l.take (off+i)++vs++l.drop (off+i+vs.length)) e) }
 | [],i,off,l,w,hb,_,_=>by
  have:w.heap.setIfInBounds b (cl l e)=w.heap:=by
   grind
  simp[storeCells,this]
 | v::vs,i,off,l,w,hb,hl,gA=>by
  simp only[List.length_cons]at hl
  have CU:(⟨b,off,none⟩:Addr).add i=⟨b,off+i,none⟩:=by
   unfold Addr.add;split
   ·rename_i h0;subst h0;rfl
   ·rfl
  have dq:w.cell? ⟨b,off+i,none⟩=some (l[off+i]' aj):=by rw[cZ hb];simp
  have h1:(store ((⟨b,off,none⟩:Addr).add i) v).run P w = .ok () { w with heap:=w.heap.setIfInBounds b (cl (l.set (off+i) v) e) }:=by
   rw[CU,run_store P w _ v .plain (gA v (by simp))]
   grind [dq,jN,sk]
  have cB:b<w.heap.size:=by
   grind
  have ih:=fm (b:=b) (e:=e) vs (i+1) off (l.set (off+i) v) { w with heap:=w.heap.setIfInBounds b (cl (l.set (off+i) v) e) } (by simp[cB]) (by simp;omega) (fun u hu=>gA u (by simp[hu]))
  simp only[storeCells,Sem.run_bind,h1,Result.andThen_ok,ih]
  congr 1
  simp only[Array.setIfInBounds_setIfInBounds]
  congr 2
  have I6:off+i<l.length:=by omega
  rw[List.set_eq_take_append_cons_drop,if_pos I6]
  have e1:(List.take (off+i) l++v::List.drop (off+i+1) l).take (off+(i+1))=List.take (off+i) l++[v]:=by
   grind
  have e2:(List.take (off+i) l++v::List.drop (off+i+1) l).drop (off+(i+1)+vs.length)=List.drop (off+i+(vs.length+1)) l:=by
   rw[List.drop_append]
   simp only[List.length_take]
   rw[show min (off+i) l.length=off+i by omega,List.drop_of_length_le (by simp;omega)]
   rw[show off+(i+1)+vs.length-(off+i)=vs.length+1 by omega]
   simp[show off+i+1+vs.length=off+i+(vs.length+1) by omega]
  rw[e1,e2]
  simp
def gU:List Value→Bool
 | []=>true
 | v::vs=>v.oneCell' && gU vs
theorem tR{vs:List Value}(h:gU vs=true):∀v∈vs,v.oneCell'=true:=by
 induction vs with
 | nil=>intro v hv;cases hv
 | cons u vs ih =>
  grind [gU]
theorem tn{z r vs:List Value}{i:Nat}(h:lT [] i z vs = .mk r)(hv:vs≠[]):r=z.take i++vs++z.drop (i+vs.length)∧i+vs.length≤z.length:=by
 obtain⟨h1,h2,_⟩:=GG _ _ _ _ _ h
 grind
def dX{t:TypeId}{x y:Operand}{b off:Nat}{bL:Ty}{l l':List Value}{e:TypeId}{v:Value}(i:Nat)(hS:∀w,Sat G w H'→Sx rest S w)(hx:ev L x=some (.pointer (some ⟨b,off,none⟩)))(hy:ev L y=some v)(ht:U.get t=some bL)(js:Nat.beq (bg v).length bL.info.size=true)(gf:Nat.beq (bg v).length 0=false)(gA:gU (bg v)=true)(hi:bU H i=some (ag b (cl l e)))(hl:lT [] off l (bg v) = .mk l')(hp:jI i (ag b (cl l' e)) H [] = .mk H')(h:J P f n R G S all rest k L H'):J P f n R G S all (.cons false true ⟨none,.store t x y,ty,pos,af,gd⟩ rest) k L H:=by
 refine N1 (fun H1=>H1=H') (fun a w ha hw=>?_) (fun H1 w e hw=>hS w (e ▸ hw)) (fun H1 e=>e ▸ h)
 have qe:bg v≠[]:=fun e=>by rw[e]at gf;cases gf
 obtain⟨h1,h2⟩:=tn hl qe
 have hr:=fm (P:=P) (bg v) 0 off l w (hw.rf hi) (by simpa using h2) (tR gA)
 simp only[Nat.add_zero,← h1]at hr
 refine⟨_,H',?_,rfl,hw.put hi hp⟩
 have acY:v.cells.size=bL.info.size:=by rw[cW];simpa using Nat.eq_of_beq_eq_true js
 have jF:v.cells.toList=bg v:=by rw[cW]
 simp only[execOp,ha.ev hx,ha.ev hy,Instr.storeAt,Instr.sureAddr,Sem.run_bind,Sem.run_pure,Result.andThen_ok,storeVar,run_sizeOf ht]
 simp_all
theorem bC{elem:TypeId}{x:Operand}{v:Value}(hd:Nat.blt d n=true)(hx:ev L x=some v)(hS:∀b w,Sat G w (ag b (cl (bg v) elem)::H)→Sx rest S w)(h:∀b,J P f n R G S all rest k ((d,.pointer (some ⟨b,0,none⟩))::L) (ag b (cl (bg v) elem)::H)) :
  J P f n R G S all (.cons false true ⟨some d,.box elem x,ty,pos,af,gd⟩ rest) k L H:=by
 refine lO hd (fun u H1=>∃b,u = .pointer (some ⟨b,0,none⟩)∧H1=ag b (cl (bg v) elem)::H) (fun a w ha hw=>?_) ?_ ?_
 ·refine⟨_,_,_,?_,⟨w.heap.size,rfl,rfl⟩,hw.alloc _⟩
  simp[execOp,ha.ev hx,Instr.box,newVar,newRow,cW,cl]
 ·grind
 grind
theorem Qh{elem:TypeId}{bL:Ty}{z:Value}(hd:Nat.blt d n=true)(ht:U.get elem=some bL)(hz:bL.info.zero=some z)(hS:∀b w,Sat G w (ag b (cl (bg z) elem)::H)→Sx rest S w)(h:∀b,J P f n R G S all rest k ((d,.pointer (some ⟨b,0,none⟩))::L) (ag b (cl (bg z) elem)::H)) :
  J P f n R G S all (.cons false true ⟨some d,.alloc elem,ty,pos,af,gd⟩ rest) k L H:=by
 refine lO hd (fun u H1=>∃b,u = .pointer (some ⟨b,0,none⟩)∧H1=ag b (cl (bg z) elem)::H) (fun a w ha hw=>?_) ?_ ?_
 ·refine⟨_,_,_,?_,⟨w.heap.size,rfl,rfl⟩,hw.alloc _⟩
  simp[execOp,Instr.alloc,cY ht hz,newVar,newRow,cW,cl]
 ·grind
 grind
theorem dA{t:TypeId}(hd:Nat.blt d n=true)(hS:∀b w,Sat G w (ag b (.map #[] 0)::H)→Sx rest S w)(h:∀b,J P f n R G S all rest k ((d,.map (some b))::L) (ag b (.map #[] 0)::H)) :
  J P f n R G S all (.cons false true ⟨some d,.makeMap t none,ty,pos,af,gd⟩ rest) k L H:=by
 refine lO hd (fun u H1=>∃b,u = .map (some b)∧H1=ag b (.map #[] 0)::H) (fun a w ha hw=>?_) ?_ ?_
 ·refine⟨_,_,_,?_,⟨w.heap.size,rfl,rfl⟩,hw.alloc _⟩
  simp[execOp,Instr.makeMap]
 ·grind
 grind
def Ey(z:List Value):Nat→List Value→List Value
 | 0,acc=>acc
 | i+1,acc=>Ey z i (z++acc)
def sN(L:eC)(size:Nat):List Value→List (Nat × Operand)→JW
 | z,[] => .mk z
 | z,(i,x)::ps=>match ev L x with
  | some v=>bif Nat.beq (bg v).length 0 then .no else bif Nat.beq (bg v).length size then
    (match lT [] (i*size) z (bg v)with
    | .mk z'=>sN L size z' ps
    | .no => .no)else .no
  | none => .no
theorem tQ{a:Act}(ha:Has n L a)(size:Nat)(ps:List (Nat × Operand)):∀(z r:List Value),sN L size z ps = .mk r →
  Instr.fill (fun i=>some (i*size,size)) z.toArray (ps.map fun x=>(x.1,a.eval x.2))=some r.toArray:=by
 induction ps with
 | nil=>intro z r h;simp only[sN]at h;cases h;rfl
 | cons p ps ih =>
  obtain⟨i,x⟩:=p
  intro z r h
  simp only[sN]at h
  split at h
  ·rename_i u hu
   cases CQ:Nat.beq (bg u).length 0 with
   | true=>simp[CQ]at h
   | false =>
   simp only[CQ,cond_false]at h
   cases hb:Nat.beq (bg u).length size with
   | false=>simp[hb]at h
   | true =>
    simp only[hb,cond_true]at h
    split at h
    ·rename_i z' hz'
     have hr:=ih z' r h
     simp only[List.map_cons,Instr.fill,ha.ev hu]
     have hlen:(bg u).length=size:=Nat.eq_of_beq_eq_true hb
     have he:bg u≠[]:=fun e=>by rw[e]at CQ;cases CQ
     obtain⟨h4,h1⟩:=tn hz' he
     have js:u.cells.size=size:=by rw[cW];simpa using hlen
     rw[if_neg (by simp[js];rw[← hlen];rw[← hlen]at h1;exact h1)]
     have:=zb (bg u) 0 (i*size) z.toArray (by simpa using h1)
     simp only[Nat.add_zero]at this
     have e:((bg u).toArray.zipIdx.foldl (fun cs (x:Value × Nat)=>cs.setIfInBounds (i*size+x.2) x.1) z.toArray)=z'.toArray:=by
      grind
     rw[cW]
     grind
    ·cases h
  ·cases h
theorem ye{t elem:TypeId}{bL te:Ty}{z:Value}{len:Nat}{parts:Array (Nat × Operand)}{cs:List Value}(hd:Nat.blt d n=true)(ht:U.get t=some bL)(hu:bL.fe = .slice elem)(he:U.get elem=some te)(hz:te.info.zero=some z)(js:Nat.beq (bg z).length te.info.size=true)(nv:Nat.blt 0 te.info.size=true)(Al:Nat.ble (len*te.info.size) 16777216=true)(hb:sN L te.info.size (Ey (bg z) len []) parts.toList = .mk cs)(hS:∀b w,Sat G w (ag b (cl cs elem)::H)→Sx rest S w)(h:∀b,J P f n R G S all rest k ((d,.slice (some ⟨b,0,none⟩) len len)::L) (ag b (cl cs elem)::H)) :
  J P f n R G S all (.cons false true ⟨some d,.buildSlice t len parts,ty,pos,af,gd⟩ rest) k L H:=by
 have acY:(bg z).length=te.info.size:=Nat.eq_of_beq_eq_true js
 have ac8:0<te.info.size:=by simpa[Nat.blt_eq]using nv
 have aad:∀(i:Nat) (acc:List Value),Ey (bg z) i acc=(List.replicate i (bg z)).flatten++acc:=by
  intro i
  induction i with
  | zero=>intro acc;simp[Ey]
  | succ i ih =>
   intro acc
   rw[Ey,ih]
   rw[List.replicate_succ']
   simp
 have ae8:((Array.range (len*te.info.size)).map fun i=>z.cells[i%z.cells.size]!)=(Ey (bg z) len []).toArray:=by
  apply Array.ext'
  rw[aad]
  simp only[Array.toList_map,Array.toList_range,List.append_nil]
  have jy:z.cells.size=te.info.size:=by rw[cW];simpa using acY
  rw[jy]
  clear Al hb h hS
  induction len with
  | zero=>simp
  | succ len ih =>
   rw[List.replicate_succ',List.flatten_append,← ih]
   rw[Nat.succ_mul,List.range_add,List.map_append]
   congr 1
   simp only[List.map_map,List.flatten_cons,List.flatten_nil,List.append_nil]
   apply List.ext_getElem?
   intro j
   by_cases hj:j<te.info.size
   ·simp only[List.getElem?_map,List.getElem?_range hj,Option.map_some,Function.comp]
    rw[Nat.mul_comm,Nat.mul_add_mod,Nat.mod_eq_of_lt hj]
    grind [cW,bg]
   grind
 refine lO hd (fun u H1=>∃b,u = .slice (some ⟨b,0,none⟩) len len∧H1=ag b (cl cs elem)::H) (fun a w ha hw=>?_) ?_ ?_
 ·refine⟨_,_,_,?_,⟨w.heap.size,rfl,rfl⟩,hw.alloc _⟩
  have hf:=tQ ha _ _ _ _ hb
  have hle:¬len*te.info.size>2 ^ 24:=by have:=Nat.le_of_ble_eq_true Al;omega
  simp only[execOp,Instr.buildSlice,Sem.run_bind,run_underlying ht,Result.andThen_ok,hu,run_sizeOf he,if_neg hle,Sem.run_pure]
  by_cases h0:len*te.info.size=0
  ·have I7:len=0:=by
    rcases Nat.eq_zero_or_pos len with h|h
    ·exact h
    ·exact absurd h0 (Nat.ne_of_gt (Nat.mul_pos h ac8))
   subst I7
   have hf0:Instr.fill (fun i=>some (i*te.info.size,te.info.size)) #[] (parts.toList.map fun x=>(x.1,a.eval x.2))=some cs.toArray:=by simpa[Ey]using hf
   have CC:((Array.range 0).map fun i=>(#[]:Array Value)[i%(#[]:Array Value).size]!) = #[]:=by simp
   simp only[Nat.zero_mul,if_true,pure_bind,CC,Array.toList_map]
   rw[show(List.map (fun x:Nat × Operand=>match x with|(i,x)=>(i,a.eval x)) parts.toList)=parts.toList.map (fun x=>(x.1,a.eval x.2))from rfl,hf0]
   simp[newRow,cl]
  ·simp only[if_neg h0,Sem.run_bind,cY he hz,Sem.run_pure,Result.andThen_ok,ae8,Array.toList_map]
   rw[show(List.map (fun x:Nat × Operand=>match x with|(i,x)=>(i,a.eval x)) parts.toList)=parts.toList.map (fun x=>(x.1,a.eval x.2))from rfl,hf]
   simp[newRow,cl]
 ·grind
 grind
def HF{o:Oper}(h:J P f n R G S all (.cons m false o rest) k L H):J P f n R G S all (.cons m false o rest) k L H:=h
def rI{c x y:Operand}(h:J P f n R G S all (.cons m true ⟨some d,.pick c x y,ty,pos,af,gd⟩ rest) k L H):J P f n R G S all (.cons m true ⟨some d,.pick c x y,ty,pos,af,gd⟩ rest) k L H:=h
def nJ{op:BinOp}{t t':TypeId}{x y:Operand}(h:J P f n R G S all (.cons m true ⟨some d,.binOp op t x y t',ty,pos,af,gd⟩ rest) k L H):J P f n R G S all (.cons m true ⟨some d,.binOp op t x y t',ty,pos,af,gd⟩ rest) k L H:=h
def aS{t:TypeId}{x:Operand}(h:J P f n R G S all (.cons m true ⟨some d,.load t x,ty,pos,af,gd⟩ rest) k L H):J P f n R G S all (.cons m true ⟨some d,.load t x,ty,pos,af,gd⟩ rest) k L H:=h
def aX{t:TypeId}{x y:Operand}(h:J P f n R G S all (.cons m true ⟨none,.store t x y,ty,pos,af,gd⟩ rest) k L H):J P f n R G S all (.cons m true ⟨none,.store t x y,ty,pos,af,gd⟩ rest) k L H:=h
def ib{t t':TypeId}{x:Operand}(h:J P f n R G S all (.cons m true ⟨some d,.convert t t' x,ty,pos,af,gd⟩ rest) k L H):J P f n R G S all (.cons m true ⟨some d,.convert t t' x,ty,pos,af,gd⟩ rest) k L H:=h
def rK{o:Oper}{j t:Nat}{oj:Oper}{b:Bool}(hg:o.guard=some (j,b))(hj:bU all.toList j=some oj)(ht:oj.dst=some t)(hb:dp L t=some (.bool b))(h:J P f n R G S all (.cons m true o rest) k L H):J P f n R G S all (.cons m false o rest) k L H:=by
 intro a w ha hw hS
 have h1:=h a w ha hw (Sx.of hS)
 have pG:all[j]?=some oj:=by rw[de]at hj;simpa using hj
 have lA:Region.wanted o (yielded all a.tmps)=true:=by
  simp only[Region.wanted,hg,yielded,pG,Option.bind_some,ht,ha.get hb]
  simp
 rcases h1 with⟨_,h1⟩|⟨hf,_⟩
 ·exact .inl ⟨.inr lA,h1⟩
 ·cases hf
theorem rL{o:Oper}{j t:Nat}{oj:Oper}{b c:Bool}(hd:o.dst=some d)(nx:Nat.blt d n=true)(hg:o.guard=some (j,b))(hj:bU all.toList j=some oj)(ht:oj.dst=some t)(hb:dp L t=some (.bool c))(hbc:(c == b)=false)(h:J P f n R G S all rest k ((d,undef)::L) H):J P f n R G S all (.cons m false o rest) k L H:=by
 intro a w ha hw hS
 have pG:all[j]?=some oj:=by rw[de]at hj;simpa using hj
 have lA:Region.wanted o (yielded all a.tmps)=false:=by
  simp only[Region.wanted,hg,yielded,pG,Option.bind_some,ht,ha.get hb]
  grind
 exact .inr ⟨rfl,lA,by rw[hd];exact h _ w (ha.put nx undef) hw (Sx.of hS)⟩
theorem pA{o:Oper}{j t:Nat}{oj:Oper}{b c:Bool}(hd:o.dst=none)(hg:o.guard=some (j,b))(hj:bU all.toList j=some oj)(ht:oj.dst=some t)(hb:dp L t=some (.bool c))(hbc:(c == b)=false)(h:J P f n R G S all rest k L H):J P f n R G S all (.cons m false o rest) k L H:=by
 intro a w ha hw hS
 have pG:all[j]?=some oj:=by rw[de]at hj;simpa using hj
 have lA:Region.wanted o (yielded all a.tmps)=false:=by
  simp only[Region.wanted,hg,yielded,pG,Option.bind_some,ht,ha.get hb]
  grind
 exact .inr ⟨rfl,lA,by rw[hd];exact h a w ha hw (Sx.of hS)⟩
def rJ{o:Oper}{j t:Nat}{oj:Oper}{b:Bool}(hd:o.dst=some d)(nx:Nat.blt d n=true)(hg:o.guard=some (j,b))(hj:bU all.toList j=some oj)(ht:oj.dst=some t)(hb:dp L t=some undef)(h:J P f n R G S all rest k ((d,undef)::L) H):J P f n R G S all (.cons m false o rest) k L H:=by
 intro a w ha hw hS
 have pG:all[j]?=some oj:=by rw[de]at hj;simpa using hj
 have lA:Region.wanted o (yielded all a.tmps)=false:=by
  simp only[Region.wanted,hg,yielded,pG,Option.bind_some,ht,ha.get hb,undef]
  rfl
 exact .inr ⟨rfl,lA,by rw[hd];exact h _ w (ha.put nx undef) hw (Sx.of hS)⟩
def uJ{c x y:Operand}{v:Value}(hd:Nat.blt d n=true)(hc:ev L c=some (.bool true))(hx:ev L x=some v)(h:J P f n R G S all rest k ((d,v)::L) H):J P f n R G S all (.cons m true ⟨some d,.pick c x y,ty,pos,af,gd⟩ rest) k L H :=
 cR hd (fun a ha w=>by simp[execOp,ha.ev hc,ha.ev hx,asBool]) h
def uK{c x y:Operand}{v:Value}(hd:Nat.blt d n=true)(hc:ev L c=some (.bool false))(hy:ev L y=some v)(h:J P f n R G S all rest k ((d,v)::L) H):J P f n R G S all (.cons m true ⟨some d,.pick c x y,ty,pos,af,gd⟩ rest) k L H :=
 cR hd (fun a ha w=>by simp[execOp,ha.ev hc,ha.ev hy,asBool]) h
def Qe(t:Nat){b:Bool}(hb:dp L t=some (.bool b))(ht:b=true→J P f n R G S all rest k ((t,.bool true)::L) H)(hf:b=false→J P f n R G S all rest k ((t,.bool false)::L) H) :
  J P f n R G S all rest k L H:=by
 have hs:∀c:Bool,b=c→∀s v,dp ((t,.bool c)::L) s=some v→dp L s=some v:=by
  rintro c rfl s v e
  simp only[dp]at e
  cases dE:Nat.beq t s with
  | true=>simp only[dE,cond_true]at e;rw[← Nat.eq_of_beq_eq_true dE,hb];exact e
  | false=>simpa only[dE,cond_false]using e
 cases b with
 | true=>exact NN (hs true rfl) (ht rfl)
 | false=>exact NN (hs false rfl) (hf rfl)
def NO(t:Nat){p:Prop}[Decidable p](hb:dp L t=some (.bool (decide p)))(ht:p→J P f n R G S all rest k ((t,.bool true)::L) H)(hf:¬p→J P f n R G S all rest k ((t,.bool false)::L) H) :
  J P f n R G S all rest k L H:=Qe t hb (fun h=>ht (of_decide_eq_true h)) (fun h=>hf (of_decide_eq_false h))
def ew{o:Oper}{j t:Nat}{oj:Oper}{p:Prop}[Decidable p]{b:Bool}(hg:o.guard=some (j,b))(hj:bU all.toList j=some oj)(ht:oj.dst=some t)(hb:dp L t=some (.bool (decide p)))(h1:p→J P f n R G S all (.cons m false o rest) k ((t,.bool true)::L) H)(h2:¬p→J P f n R G S all (.cons m false o rest) k ((t,.bool false)::L) H):J P f n R G S all (.cons m false o rest) k L H:=NO t hb h1 h2
def aC(t:Nat){u:Value}(v:Value)(hb:dp L t=some u)(huv:u=v)(h:J P f n R G S all rest k ((t,v)::L) H):J P f n R G S all rest k L H:=by
 subst huv
 refine NN (fun s x e=>?_) h
 simp only[dp]at e
 cases dE:Nat.beq t s with
 | true=>simp only[dE,cond_true]at e;rw[← Nat.eq_of_beq_eq_true dE,hb];exact e
 | false=>simpa only[dE,cond_false]using e
def aQ(t:Nat){u:Value}(v:Value)(hb:dp L t=some u)(huv:u=v)(h:K P f n R G k ((t,v)::L) H):K P f n R G k L H:=by
 subst huv
 refine HC (fun s x e=>?_) h
 simp only[dp]at e
 cases dE:Nat.beq t s with
 | true=>simp only[dE,cond_true]at e;rw[← Nat.eq_of_beq_eq_true dE,hb];exact e
 | false=>simpa only[dE,cond_false]using e
def fZ:IntKind→Int→Prop
 | .i8,x => -128≤x∧x≤127
 | .i16,x => -32768≤x∧x≤32767
 | .i32,x => -2147483648≤x∧x≤2147483647
 | .i64,x => -9223372036854775808≤x∧x≤9223372036854775807
 | .u8,x=>0≤x∧x≤255
 | .u16,x=>0≤x∧x≤65535
 | .u32,x=>0≤x∧x≤4294967295
 | .u64,x=>0≤x∧x≤18446744073709551615
theorem cz{j:IntKind}{x:Int}(h:fZ j x):j.wrap x=x:=by
 cases j <;> simp only[fZ]at h <;> simp[IntKind.wrap,IntKind.bits,IntKind.signed] <;> (try split) <;> omega
def DB{t yt:TypeId}{x y:Operand}{j:IntKind}{p q:Int}(hd:Nat.blt d n=true)(hx:ev L x=some (.int j p))(hy:ev L y=some (.int j q))(hr:fZ j (p+q))(h:J P f n R G S all rest k ((d,.int j (p+q))::L) H):J P f n R G S all (.cons m true ⟨some d,.binOp .add t x y yt,ty,pos,af,gd⟩ rest) k L H :=
 cR hd (fun a ha w=>by simp[execOp,ha.ev hx,ha.ev hy,eqGuard,binOp,Op.intArith,cz hr]) h
def A5{t yt:TypeId}{x y:Operand}{j:IntKind}{p q:Int}(hd:Nat.blt d n=true)(hx:ev L x=some (.int j p))(hy:ev L y=some (.int j q))(hr:fZ j (p-q))(h:J P f n R G S all rest k ((d,.int j (p-q))::L) H):J P f n R G S all (.cons m true ⟨some d,.binOp .sub t x y yt,ty,pos,af,gd⟩ rest) k L H :=
 cR hd (fun a ha w=>by simp[execOp,ha.ev hx,ha.ev hy,eqGuard,binOp,Op.intArith,cz hr]) h
def iG{t yt:TypeId}{x y:Operand}{j:IntKind}{p q:Int}(hd:Nat.blt d n=true)(hx:ev L x=some (.int j p))(hy:ev L y=some (.int j q))(hr:fZ j (p*q))(h:J P f n R G S all rest k ((d,.int j (p*q))::L) H):J P f n R G S all (.cons m true ⟨some d,.binOp .mul t x y yt,ty,pos,af,gd⟩ rest) k L H :=
 cR hd (fun a ha w=>by simp[execOp,ha.ev hx,ha.ev hy,eqGuard,binOp,Op.intArith,cz hr]) h
def Gc{t yt:TypeId}{x y:Operand}{j:IntKind}{p q:Int}(hd:Nat.blt d n=true)(hx:ev L x=some (.int j p))(hy:ev L y=some (.int j q))(h:J P f n R G S all rest k ((d,.int j (j.wrap (p+q)))::L) H):J P f n R G S all (.cons m true ⟨some d,.binOp .add t x y yt,ty,pos,af,gd⟩ rest) k L H :=
 cR hd (fun a ha w=>by simp[execOp,ha.ev hx,ha.ev hy,eqGuard,binOp,Op.intArith]) h
def NT{t yt:TypeId}{x y:Operand}{j:IntKind}{p q:Int}(hd:Nat.blt d n=true)(hx:ev L x=some (.int j p))(hy:ev L y=some (.int j q))(h:J P f n R G S all rest k ((d,.int j (j.wrap (p*q)))::L) H):J P f n R G S all (.cons m true ⟨some d,.binOp .mul t x y yt,ty,pos,af,gd⟩ rest) k L H :=
 cR hd (fun a ha w=>by simp[execOp,ha.ev hx,ha.ev hy,eqGuard,binOp,Op.intArith]) h
def tT{t yt:TypeId}{x y:Operand}{j:IntKind}{p q:Int}(hd:Nat.blt d n=true)(hx:ev L x=some (.int j p))(hy:ev L y=some (.int j q))(hp:0≤p)(hq:0<q)(h:J P f n R G S all rest k ((d,.int j (p%q))::L) H):J P f n R G S all (.cons m true ⟨some d,.binOp .rem t x y yt,ty,pos,af,gd⟩ rest) k L H :=
 cR hd (fun a ha w=>by
  have h0:¬q=0:=by omega
  simp[execOp,ha.ev hx,ha.ev hy,eqGuard,binOp,Op.intDiv,h0,Int.tmod_eq_emod_of_nonneg hp]) h
def tU{t yt:TypeId}{x y:Operand}{j:IntKind}{p q:Int}(hd:Nat.blt d n=true)(hx:ev L x=some (.int j p))(hy:ev L y=some (.int j q))(hp:0≤p)(hq:0<q)(hr:fZ j (p/q))(h:J P f n R G S all rest k ((d,.int j (p/q))::L) H):J P f n R G S all (.cons m true ⟨some d,.binOp .quo t x y yt,ty,pos,af,gd⟩ rest) k L H :=
 cR hd (fun a ha w=>by
  have h0:¬q=0:=by omega
  simp[execOp,ha.ev hx,ha.ev hy,eqGuard,binOp,Op.intDiv,h0,Int.tdiv_eq_ediv_of_nonneg hp,cz hr]) h
def fL{t yt:TypeId}{x y:Operand}{j j':IntKind}{p q:Int}(hd:Nat.blt d n=true)(hx:ev L x=some (.int j p))(hy:ev L y=some (.int j' q))(hq:0≤q)(h:J P f n R G S all rest k ((d,.int j (p/2 ^ (min q.toNat j.bits)))::L) H):J P f n R G S all (.cons m true ⟨some d,.binOp .shr t x y yt,ty,pos,af,gd⟩ rest) k L H :=
 cR hd (fun a ha w=>by
  have h0:¬q<0:=by omega
  have nv:(0:Int)≤2 ^ (min q.toNat j.bits):=Int.le_of_lt (Int.pow_pos aj)
  simp[execOp,ha.ev hx,ha.ev hy,eqGuard,binOp,Op.shift,h0,Int.fdiv_eq_ediv_of_nonneg p nv]) h
def l4{t yt:TypeId}{x y:Operand}{j j':IntKind}{p q:Int}(hd:Nat.blt d n=true)(hx:ev L x=some (.int j p))(hy:ev L y=some (.int j' q))(hq:0≤q)(h:J P f n R G S all rest k ((d,.int j (j.wrap (p*2 ^ (min q.toNat j.bits))))::L) H):J P f n R G S all (.cons m true ⟨some d,.binOp .shl t x y yt,ty,pos,af,gd⟩ rest) k L H :=
 cR hd (fun a ha w=>by
  have h0:¬q<0:=by omega
  simp[execOp,ha.ev hx,ha.ev hy,eqGuard,binOp,Op.shift,h0]) h
def sV{src dst:TypeId}{ts td:Ty}{x:Operand}{j j' jd:IntKind}{p:Int}(hd:Nat.blt d n=true)(hx:ev L x=some (.int j p))(hs:U.get src=some ts)(IZ:ts.fe = .int j')(Je:U.get dst=some td)(Jd:td.fe = .int jd)(hr:fZ jd p)(h:J P f n R G S all rest k ((d,.int jd p)::L) H):J P f n R G S all (.cons m true ⟨some d,.convert src dst x,ty,pos,af,gd⟩ rest) k L H :=
 cR hd (fun a ha w=>by simp[execOp,ha.ev hx,convert,run_underlying hs,run_underlying Je,IZ,Jd,Conv.intToInt,cz hr]) h
def HI{src dst:TypeId}{ts td:Ty}{x:Operand}{j j' jd:IntKind}{p:Int}(hd:Nat.blt d n=true)(hx:ev L x=some (.int j p))(hs:U.get src=some ts)(IZ:ts.fe = .int j')(Je:U.get dst=some td)(Jd:td.fe = .int jd)(h:J P f n R G S all rest k ((d,.int jd (jd.wrap p))::L) H):J P f n R G S all (.cons m true ⟨some d,.convert src dst x,ty,pos,af,gd⟩ rest) k L H :=
 cR hd (fun a ha w=>by simp[execOp,ha.ev hx,convert,run_underlying hs,run_underlying Je,IZ,Jd,Conv.intToInt]) h
def jU{g:FuncId}{vs:Array Value}{w:World}(h:P.funcs[g]?.map hG=some true):(callFunc g vs).run P w = .ok (.enter g vs) w:=by
 cases hf:P.funcs[g]? with
 | none=>rw[hf]at h;cases h
 | some fn =>
  rw[hf]at h
  simp only[Option.map_some,Option.some.injEq,hG,Bool.and_eq_true,Bool.not_eq_true']at h
  have h1:fn.body.isNone=false:=by cases hb:fn.body <;> simp_all
  simp only[callFunc,Sem.run_bind,run_program,Result.andThen_ok,hf,h.2,h1,Bool.false_eq_true,if_false,Sem.run_pure]
def bS{fo:Operand}{args:Array Operand}{uS:Array TypeId}{g:FuncId}{cap:Array Value}{vs:List Value}{Pre Fr:List HP}{Post:Value→List HP→Prop}(is:List Nat)(hd:Nat.blt d n=true)(hf:ev L fo=some (.func (.func g) #[] cap))(fK:DZ L args.toList [] = .mk vs){as:List Value}(has:as=vs++cap.toList)(c:aw P g as Pre Post)(hp:qO is [] H [] = .mk Pre Fr)(hS:∀v H' w,Post v H'→Sat G w (H'++Fr)→Sx rest S w)(h:∀v H',Post v H'→J P f n R G S all rest k ((d,v)::L) (H'++Fr)) :
  J P f n R G S all (.cons false true ⟨some d,.call { callee := .value fo,args:=args,argTypes:=uS },ty,pos,af,gd⟩ rest) k L H:=by
 intro a w ha hw _
 refine .inl ⟨.inl rfl,.inr ⟨rfl,?_⟩⟩
 have hr:(execOp a.eval ⟨some d,.call { callee := .value fo,args:=args,argTypes:=uS },ty,pos,af,gd⟩).run P w = .ok (.enter g as.toArray) w:=by
  simp only[execOp,resolve,Sem.run_bind,ha.ev hf,Deferred.ofValue,Sem.run_pure,Result.andThen_ok,invoke]
  rw[jU c.1,lF ha.1 _ _ fK,has]
  congr 2
  simp
 refine rZ (fun c hc=>by cases hc) hr (Calls.mono (c.2 G w Fr (hw.pick is hp)) ?_)
 rintro e w'⟨v,H',rfl,ef,lA⟩
 exact⟨v,rfl,hS v H' w' ef lA,h v H' ef _ w' (ha.put hd v) lA (hS v H' w' ef lA)⟩
end
end Go.SL
