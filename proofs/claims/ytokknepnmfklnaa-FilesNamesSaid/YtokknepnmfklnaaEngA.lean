/- Engine, part A: partial heaps, separated assertions, worlds that satisfy them. Nothing here names a program. -/
import Derived.OrdersHeld
import Derived.KernelRfl
import Derived.Laws.Cells
import Derived.Laws.CopyRow
import Derived.Laws.AppendOwn
import Derived.Laws.CopyOwn
namespace Go.SL

abbrev Hp := Nat → Option Obj
abbrev HP := Hp → Prop

def emp : HP := fun h => ∀ c, h c = none
def pts (b : Nat) (o : Obj) : HP := fun h => ∀ c, h c = if c = b then some o else none
def star (A B : HP) : HP := fun h => ∃ h1 h2 : Hp, A h1 ∧ B h2 ∧ (∀ b, h1 b = none ∨ h2 b = none) ∧ ∀ b, h b = (h1 b).or (h2 b)
def Sep : List HP → HP
  | [] => emp
  | A :: l => star A (Sep l)
def ex {α : Type} (A : α → HP) : HP := fun h => ∃ x, A x h
def fact (p : Prop) : HP := fun h => p ∧ emp h
def sub (h' h : Hp) : Prop := ∀ b o, h' b = some o → h b = some o

/-- A row of cells, none of it frozen. -/
def cl (l : List Value) (e : TypeId) : Obj := .cells l.toArray e (0, 0)

theorem sub.refl (h : Hp) : sub h h := fun _ _ e => e
theorem sub.trans {a b c : Hp} (h1 : sub a b) (h2 : sub b c) : sub a c := fun x o e => h2 x o (h1 x o e)

theorem star_comm {A B : HP} {h : Hp} (hs : star A B h) : star B A h := by
  obtain ⟨h1, h2, ha, hb, hd, he⟩ := hs
  refine ⟨h2, h1, hb, ha, fun b => (hd b).symm, fun b => ?_⟩
  rw [he b]
  rcases hd b with e | e <;> rw [e] <;> simp

theorem star_assoc {A B C : HP} {h : Hp} (hs : star A (star B C) h) : star (star A B) C h := by
  obtain ⟨h1, h2, ha, ⟨h3, h4, hb, hc, hd', he'⟩, hd, he⟩ := hs
  refine ⟨fun b => (h1 b).or (h3 b), h4, ⟨h1, h3, ha, hb, fun b => ?_, fun b => rfl⟩, hc, fun b => ?_, fun b => ?_⟩
  · rcases hd b with e | e
    · exact .inl e
    · rw [he' b] at e; simp at e; exact .inr e.1
  · rcases hd b with e | e
    · rcases hd' b with e' | e'
      · left; simp [e, e']
      · exact .inr e'
    · rw [he' b] at e; simp at e; exact .inr e.2
  · rw [he b, he' b]; simp [Option.or_assoc]

theorem star_mono {A A' B B' : HP} {h : Hp} (ha : ∀ h, A h → A' h) (hb : ∀ h, B h → B' h) (hs : star A B h) : star A' B' h := by
  obtain ⟨h1, h2, h3, h4, hd, he⟩ := hs
  exact ⟨h1, h2, ha _ h3, hb _ h4, hd, he⟩

theorem star_assoc' {A B C : HP} {h : Hp} (hs : star (star A B) C h) : star A (star B C) h := by
  have h1 := star_comm hs
  have h2 : star C (star B A) h := star_mono (fun _ h => h) (fun _ h => star_comm h) h1
  have h3 := star_assoc h2
  have h4 := star_comm h3
  exact star_mono (fun _ h => h) (fun _ h => star_comm h) h4

theorem star_swap {A B C : HP} {h : Hp} (hs : star A (star B C) h) : star B (star A C) h := by
  have h1 := star_assoc hs
  exact star_assoc' (star_mono (fun _ h => star_comm h) (fun _ h => h) h1)

theorem Sep_perm {H H' : List HP} (hp : H.Perm H') : ∀ h, Sep H h → Sep H' h := by
  induction hp with
  | nil => exact fun _ h => h
  | cons A _ ih => exact fun h hs => star_mono (fun _ h => h) ih hs
  | swap A B l => exact fun h hs => star_swap hs
  | trans _ _ ih1 ih2 => exact fun h hs => ih2 h (ih1 h hs)

theorem star_emp {A : HP} {h : Hp} (ha : A h) : star A emp h :=
  ⟨h, fun _ => none, ha, fun _ => rfl, fun _ => .inr rfl, fun b => by simp⟩

theorem star_emp' {A : HP} {h : Hp} (hs : star A emp h) : A h := by
  obtain ⟨h1, h2, ha, hb, hd, he⟩ := hs
  have : h = h1 := by funext b; rw [he b, hb b]; simp
  rw [this]; exact ha

theorem emp_star {B : HP} {h : Hp} (hs : star emp B h) : B h := star_emp' (star_comm hs)

theorem Sep_append {H1 H2 : List HP} {h : Hp} (hs : Sep (H1 ++ H2) h) : star (Sep H1) (Sep H2) h := by
  induction H1 generalizing h with
  | nil => exact star_comm (star_emp hs)
  | cons A l ih => exact star_assoc (star_mono (fun _ h => h) (fun _ h => ih h) hs)

theorem Sep_append' {H1 H2 : List HP} {h : Hp} (hs : star (Sep H1) (Sep H2) h) : Sep (H1 ++ H2) h := by
  induction H1 generalizing h with
  | nil => exact emp_star hs
  | cons A l ih => exact star_mono (fun _ h => h) (fun _ h => ih h) (star_assoc' hs)

theorem Sep_one {A : HP} {h : Hp} (hs : Sep [A] h) : A h := star_emp' hs
theorem Sep_one' {A : HP} {h : Hp} (ha : A h) : Sep [A] h := star_emp ha

/-- H gives H', and perhaps more. -/
def Ent (H H' : List HP) : Prop := ∀ h, Sep H h → ∃ h' : Hp, sub h' h ∧ Sep H' h'

theorem Ent.refl (H : List HP) : Ent H H := fun h hs => ⟨h, sub.refl h, hs⟩
theorem Ent.trans {H1 H2 H3 : List HP} (a : Ent H1 H2) (b : Ent H2 H3) : Ent H1 H3 := fun h hs => by
  obtain ⟨h', s1, h1⟩ := a h hs
  obtain ⟨h'', s2, h2⟩ := b h' h1
  exact ⟨h'', s2.trans s1, h2⟩
theorem Ent.perm {H H' : List HP} (hp : H.Perm H') : Ent H H' := fun h hs => ⟨h, sub.refl h, Sep_perm hp h hs⟩
theorem star_left {A B : HP} {h : Hp} (hs : star A B h) : ∃ h', sub h' h ∧ A h' := by
  obtain ⟨h1, h2, ha, _, _, he⟩ := hs
  exact ⟨h1, fun b o e => by rw [he b, e]; rfl, ha⟩
theorem star_right {A B : HP} {h : Hp} (hs : star A B h) : ∃ h', sub h' h ∧ B h' := star_left (star_comm hs)
theorem Ent.drop (A : HP) (H : List HP) : Ent (A :: H) H := fun _ hs => star_right hs
theorem star_ent {A B B' : HP} {h : Hp} (hb : ∀ h, B h → ∃ h', sub h' h ∧ B' h') (hs : star A B h) : ∃ h', sub h' h ∧ star A B' h' := by
  obtain ⟨h1, h2, ha, hb2, hd, he⟩ := hs
  obtain ⟨h3, s3, hb3⟩ := hb _ hb2
  refine ⟨fun b => (h1 b).or (h3 b), fun b o e => ?_, h1, h3, ha, hb3, fun b => ?_, fun b => rfl⟩
  · rw [he b]
    rcases hd b with e1 | e1
    · simp only [e1, Option.none_or] at e ⊢; exact s3 b o e
    · have : h3 b = none := by
        cases h3b : h3 b with
        | none => rfl
        | some x => have := s3 b x h3b; rw [e1] at this; cases this
      simp only [this, e1, Option.or_none] at e ⊢; exact e
  · rcases hd b with e1 | e1
    · exact .inl e1
    · right
      cases h3b : h3 b with
      | none => rfl
      | some x => have := s3 b x h3b; rw [e1] at this; cases this
theorem Ent.cons {H H' : List HP} (A : HP) (a : Ent H H') : Ent (A :: H) (A :: H') := fun _ hs => star_ent a hs
/-- From the front: A's parts in A's place. -/
theorem Ent.head {A : HP} {H B : List HP} (hA : ∀ h, A h → ∃ h', sub h' h ∧ Sep B h') : Ent (A :: H) (B ++ H) := fun h hs => by
  obtain ⟨h', s, hs'⟩ := star_ent hA (star_comm hs)
  exact ⟨h', s, Sep_append' (star_comm hs')⟩
/-- To the front: parts joined. -/
theorem Ent.fold {A : HP} {H B : List HP} (hA : ∀ h, Sep B h → ∃ h', sub h' h ∧ A h') : Ent (B ++ H) (A :: H) := fun h hs => by
  obtain ⟨h', s, hs'⟩ := star_ent hA (star_comm (Sep_append hs))
  exact ⟨h', s, star_comm hs'⟩
theorem Ent.append {H1 H2 : List HP} (F : List HP) (a : Ent H1 H2) : Ent (H1 ++ F) (H2 ++ F) := fun h hs => by
  obtain ⟨h', s, hs'⟩ := star_ent a (star_comm (Sep_append hs))
  exact ⟨h', s, Sep_append' (star_comm hs')⟩

/-! ## worlds -/

/-- What stands through an activation: tape, system, output; the loop of whose round it is, if of one; the blocks of deferred calls that its ranges over functions have laid. -/
structure Glob where
  tape : Nat → Question → Nat
  os : Os
  output : Array (Nat × ByteArray)
  ro : Option Nat := none
  lo : Nat := 0
  ds : List Nat := []

def Sat (G : Glob) (w : World) (H : List HP) : Prop :=
  (w.tape = G.tape ∧ G.lo ≤ w.drawn) ∧ w.os = G.os ∧ w.output = G.output ∧ ∃ h : Hp, (∀ b o, h b = some o → w.heap[b]? = some o) ∧ Sep H h

theorem Sat.ent {G : Glob} {w : World} {H H' : List HP} (hs : Sat G w H) (he : Ent H H') : Sat G w H' := by
  obtain ⟨a, b, c, h, hw, hh⟩ := hs
  obtain ⟨h', s, hh'⟩ := he h hh
  exact ⟨a, b, c, h', fun x o e => hw x o (s x o e), hh'⟩

theorem Sat.head {G : Glob} {w : World} {A : HP} {H : List HP} (hs : Sat G w (A :: H)) : ∃ h : Hp, (∀ b o, h b = some o → w.heap[b]? = some o) ∧ A h := by
  obtain ⟨a, b, c, h, hw, hh⟩ := hs
  obtain ⟨h', s, hh'⟩ := star_left hh
  exact ⟨h', fun x o e => hw x o (s x o e), hh'⟩

theorem perm_of_get {H : List HP} {i : Nat} {A : HP} (h : H[i]? = some A) : H.Perm (A :: H.eraseIdx i) := by
  induction H generalizing i with
  | nil => simp at h
  | cons B l ih =>
    cases i with
    | zero => simp at h; subst h; simp
    | succ i =>
      simp at h
      simp only [List.eraseIdx_cons_succ]
      exact ((ih h).cons B).trans (List.Perm.swap _ _ _)

theorem Sat.get {G : Glob} {w : World} {H : List HP} (hs : Sat G w H) {i : Nat} {b : Nat} {o : Obj} (hi : H[i]? = some (pts b o)) : w.heap[b]? = some o := by
  obtain ⟨h, hw, hh⟩ := (hs.ent (Ent.perm (perm_of_get hi))).head
  exact hw b o (by rw [hh b]; simp)

theorem Sat.lt {G : Glob} {w : World} {H : List HP} (hs : Sat G w H) {i : Nat} {b : Nat} {o : Obj} (hi : H[i]? = some (pts b o)) : b < w.heap.size := by
  have := hs.get hi
  rcases Nat.lt_or_ge b w.heap.size with h | h
  · exact h
  · rw [Array.getElem?_eq_none h] at this; cases this

/-- Two rows of which both are told are two. -/
theorem Sat.ne {G : Glob} {w : World} {b1 b2 : Nat} {o1 o2 : Obj} {H : List HP} (hs : Sat G w (pts b1 o1 :: pts b2 o2 :: H)) : b1 ≠ b2 := by
  obtain ⟨_, _, _, h, hw, hh⟩ := hs
  obtain ⟨h1, h2, ha, hb, hd, he⟩ := hh
  obtain ⟨h3, s, hb3⟩ := star_left hb
  intro e
  have e1 : h1 b1 = some o1 := by rw [ha b1]; simp
  have e2 : h2 b2 = some o2 := s b2 o2 (by rw [hb3 b2]; simp)
  rcases hd b1 with e3 | e3
  · rw [e1] at e3; cases e3
  · rw [e, e2] at e3; cases e3

theorem Sat.draw {G : Glob} {w : World} {H : List HP} (hs : Sat G w H) (n : Nat) (hn : w.drawn ≤ n := by first | exact Nat.le_succ _ | exact Nat.le_refl _ | omega) : Sat G { w with drawn := n } H := ⟨⟨hs.1.1, Nat.le_trans hs.1.2 hn⟩, hs.2⟩

theorem Sat.alloc {G : Glob} {w : World} {H : List HP} (hs : Sat G w H) (o : Obj) : Sat G { w with heap := w.heap.push o } (pts w.heap.size o :: H) := by
  obtain ⟨a, b, c, h, hw, hh⟩ := hs
  have hlt : ∀ b, h b ≠ none → b < w.heap.size := fun b hb => by
    cases hx : h b with
    | none => exact absurd hx hb
    | some x =>
      have := hw b x hx
      rcases Nat.lt_or_ge b w.heap.size with h | h
      · exact h
      · rw [Array.getElem?_eq_none h] at this; cases this
  refine ⟨a, b, c, fun x => if x = w.heap.size then some o else h x, fun x o' e => ?_, fun x => if x = w.heap.size then some o else none, h, fun c => rfl, hh, fun x => ?_, fun x => ?_⟩
  · show (w.heap.push o)[x]? = some o'
    by_cases hx : x = w.heap.size
    · simp only [hx, if_true] at e; cases e; subst hx; simp
    · simp only [hx, if_false] at e
      have := hlt x (by rw [e]; simp)
      rw [Array.getElem?_push_lt this, ← Array.getElem?_eq_getElem this]
      exact hw x o' e
  · by_cases hx : x = w.heap.size
    · right
      cases hn : h x with
      | none => rfl
      | some y => exact absurd (hlt x (by rw [hn]; simp)) (by omega)
    · left; simp [hx]
  · by_cases hx : x = w.heap.size <;> simp [hx]

theorem Sat.set0 {G : Glob} {w : World} {H : List HP} {b : Nat} {o o' : Obj} (hs : Sat G w (pts b o :: H)) :
    Sat G { w with heap := w.heap.setIfInBounds b o' } (pts b o' :: H) := by
  have hlt : b < w.heap.size := hs.lt (i := 0) rfl
  obtain ⟨a, b', c, h, hw, h1, h2, ha, hb, hd, he⟩ := hs
  have h2b : h2 b = none := by
    rcases hd b with e | e
    · rw [ha b] at e; simp at e
    · exact e
  refine ⟨a, b', c, fun x => if x = b then some o' else h x, fun x y e => ?_, fun x => if x = b then some o' else none, h2, fun _ => rfl, hb, fun x => ?_, fun x => ?_⟩
  · show (w.heap.setIfInBounds b o')[x]? = some y
    by_cases hx : x = b
    · simp only [hx, if_true] at e; cases e; subst hx; simp [hlt]
    · simp only [hx, if_false] at e
      rw [Array.getElem?_setIfInBounds_ne (Ne.symm hx)]
      exact hw x y e
  · by_cases hx : x = b
    · right; rw [hx]; exact h2b
    · left; simp [hx]
  · by_cases hx : x = b
    · simp [hx]
    · simp only [hx, if_false, Option.none_or]
      rw [he x, ha x]; simp [hx]

/-! ## picking assertions by their places (written so that the kernel's and the elaborator's reduction lay the lists out) -/
inductive OutP where
  | mk (A : HP) (rest : List HP)
  | no
def finP : List HP → List HP → HP → OutP
  | [], l, A => .mk A l
  | x :: acc, l, A => finP acc (x :: l) A
def nthP : Nat → List HP → List HP → OutP
  | _, [], _ => .no
  | 0, A :: l, acc => finP acc l A
  | i + 1, A :: l, acc => nthP i l (A :: acc)
inductive OutL where
  | mk (pre rest : List HP)
  | no
def finL : List HP → List HP → List HP → OutL
  | [], l, r => .mk l r
  | x :: acc, l, r => finL acc (x :: l) r
def adj : List Nat → Nat → Nat
  | [], i => i
  | r :: rs, i => bif Nat.blt r i then Nat.sub (adj rs i) 1 else adj rs i
def pickE : List Nat → List Nat → List HP → List HP → OutL
  | [], _, H, acc => finL acc [] H
  | i :: is, gone, H, acc => match nthP (adj gone i) H [] with
    | .mk A r => pickE is (i :: gone) r (A :: acc)
    | .no => .no

theorem finP_eq (acc l : List HP) (A B : HP) (r : List HP) (h : finP acc l A = .mk B r) : B = A ∧ r = acc.reverse ++ l := by
  induction acc generalizing l with
  | nil => simp [finP] at h; simp [h]
  | cons x acc ih => have := ih (x :: l) h; simp [this]
theorem nthP_perm (i : Nat) (H acc : List HP) (A : HP) (r : List HP) (h : nthP i H acc = .mk A r) : (acc.reverse ++ H).Perm (A :: r) := by
  induction H generalizing i acc with
  | nil => cases i <;> simp [nthP] at h
  | cons B l ih =>
    cases i with
    | zero =>
      obtain ⟨rfl, rfl⟩ := finP_eq _ _ _ _ _ h
      exact List.perm_middle
    | succ i => have := ih i (B :: acc) h; simpa using this
theorem finL_eq (acc l r pre rest : List HP) (h : finL acc l r = .mk pre rest) : pre = acc.reverse ++ l ∧ rest = r := by
  induction acc generalizing l with
  | nil => simp [finL] at h; simp [h]
  | cons x acc ih => have := ih (x :: l) h; simp [this]
theorem pickE_perm (is gone : List Nat) (H acc pre rest : List HP) (h : pickE is gone H acc = .mk pre rest) : (acc.reverse ++ H).Perm (pre ++ rest) := by
  induction is generalizing gone H acc with
  | nil =>
    obtain ⟨rfl, rfl⟩ := finL_eq _ _ _ _ _ h
    simp
  | cons i is ih =>
    simp only [pickE] at h
    split at h
    · rename_i A r hr
      have h1 := nthP_perm _ _ _ _ _ hr
      have h2 := ih _ _ _ h
      refine List.Perm.trans ?_ h2
      simp only [List.reverse_cons, List.append_assoc, List.singleton_append]
      exact List.Perm.append_left _ (by simpa using h1)
    · cases h

theorem Sat.pick {G : Glob} {w : World} {H pre rest : List HP} (is : List Nat) (hs : Sat G w H) (h : pickE is [] H [] = .mk pre rest) : Sat G w (pre ++ rest) :=
  hs.ent (Ent.perm (by simpa using pickE_perm is [] H [] pre rest h))
theorem Ent.pick {H pre rest : List HP} (is : List Nat) (h : pickE is [] H [] = .mk pre rest) : Ent H (pre ++ rest) :=
  Ent.perm (by simpa using pickE_perm is [] H [] pre rest h)
theorem Ent.pickOnly {H pre rest : List HP} (is : List Nat) (h : pickE is [] H [] = .mk pre rest) : Ent H pre :=
  (Ent.pick is h).trans (fun _ hs => star_left (Sep_append hs))

/-- Put the item i anew. -/
theorem Sat.set {G : Glob} {w : World} {H : List HP} {i : Nat} {b : Nat} {o o' : Obj} (hs : Sat G w H) (hi : H[i]? = some (pts b o)) :
    Sat G { w with heap := w.heap.setIfInBounds b o' } (pts b o' :: H.eraseIdx i) :=
  (hs.ent (Ent.perm (perm_of_get hi))).set0

theorem toArray_set (l : List Value) (i : Nat) (v : Value) : l.toArray.setIfInBounds i v = (l.set i v).toArray := by
  apply Array.ext'; simp

theorem setCell_of_block {w : World} {b : Nat} {l : List Value} {e : TypeId} {off : Nat} {v : Value} (h : w.heap[b]? = some (cl l e)) :
    w.setCell ⟨b, off, none⟩ v = { w with heap := w.heap.setIfInBounds b (cl (l.set off v) e) } := by
  have hlt : b < w.heap.size := by
    rcases Nat.lt_or_ge b w.heap.size with h' | h'
    · exact h'
    · rw [Array.getElem?_eq_none h'] at h; cases h
  have hb : w.heap[b] = cl l e := by rw [Array.getElem?_eq_getElem hlt] at h; exact Option.some.inj h
  unfold World.setCell
  congr 1
  apply Array.ext
  · simp
  · intro i h1 h2
    by_cases hi : b = i
    · subst hi
      simp [Array.getElem_modify, hb, cl]
    · have h3 : i < w.heap.size := by simpa using h2
      rw [Array.getElem_modify, Array.getElem_setIfInBounds h3]
      simp [hi]

theorem cell_of_block {w : World} {b : Nat} {l : List Value} {e : TypeId} {off : Nat} (h : w.heap[b]? = some (cl l e)) : w.cell? ⟨b, off, none⟩ = l[off]? := by
  simp [World.cell?, h, cl]
theorem frozen_of_block {w : World} {b : Nat} {l : List Value} {e : TypeId} {off : Nat} (h : w.heap[b]? = some (cl l e)) : w.frozen? ⟨b, off, none⟩ = false := by
  simp only [World.frozen?, h, cl]; simp

end Go.SL
