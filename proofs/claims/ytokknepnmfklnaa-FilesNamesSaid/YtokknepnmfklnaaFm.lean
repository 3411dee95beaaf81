/- files: the disk as plain data, what each call makes of it, and how it lies in memory. No program is named here but by the numbers of types that the memory's rows bear (parameters). -/
import Derived.Test.YtokknepnmfklnaaEngH
set_option linter.unusedVariables false
namespace Go.SL
theorem Ent.unsep (l H : List HP) : Ent (Sep l :: H) (l ++ H) := fun h hs => ⟨h, sub.refl h, Sep_append' hs⟩
theorem Ent.resep (l H : List HP) : Ent (l ++ H) (Sep l :: H) := fun h hs => ⟨h, sub.refl h, Sep_append hs⟩

/-! ## rows of bytes that nobody writes any more -/
abbrev Arrs := List (Nat × List Value)
def arrS (e : TypeId) (M : Arrs) : HP := Sep (M.map fun x => pts x.1 (cl x.2 e))
/-- The slice v holds the bytes bs, in one of these rows. -/
def BIn (M : Arrs) (v : Value) (bs : List UInt8) : Prop :=
  ∃ a cap, v = .slice a bs.length cap ∧ bs.length ≤ cap ∧ (bs = [] ∨ ∃ b o cs, a = Option.some ⟨b, o, none⟩ ∧ (b, cs) ∈ M ∧ (cs.drop o).take bs.length = bV bs)
theorem BIn.mono {M M' : Arrs} {v : Value} {bs : List UInt8} (h : BIn M v bs) (hs : ∀ x ∈ M, x ∈ M') : BIn M' v bs := by
  obtain ⟨a, cap, hv, hc, h0 | ⟨b, o, cs, ha, hm, ht⟩⟩ := h
  · exact ⟨a, cap, hv, hc, .inl h0⟩
  · exact ⟨a, cap, hv, hc, .inr ⟨b, o, cs, ha, hs _ hm, ht⟩⟩
theorem BIn.nil (M : Arrs) (a : Option Addr) (cap : Nat) : BIn M (.slice a 0 cap) [] := ⟨a, cap, rfl, Nat.zero_le _, .inl rfl⟩
theorem Sep_mem {l : List HP} {A : HP} {h : Hp} (hA : A ∈ l) (hs : Sep l h) : ∃ h', sub h' h ∧ A h' := by
  obtain ⟨i, hi⟩ := List.getElem?_of_mem hA
  exact star_left (Sep_perm (perm_of_get hi) h hs)
theorem BIn.view {M : Arrs} {v : Value} {bs : List UInt8} (h : BIn M v bs) (e : TypeId) : Vw (arrS e M) v bs.length (bV bs) := by
  obtain ⟨a, cap, rfl, _, h0 | ⟨b, o, cs, ha, hm, ht⟩⟩ := h
  · subst h0; exact ⟨a, cap, rfl, .inl rfl⟩
  · have h1 : Vw (pts b (cl cs e)) (.slice a bs.length cap) bs.length (bV bs) := by
      rw [ha]; exact Vw.pts (by rw [bV_length]; exact ht)
    refine h1.mono fun h hs => ?_
    exact Sep_mem (List.mem_map.2 ⟨(b, cs), hm, rfl⟩) hs
theorem BIn.shape {M : Arrs} {v : Value} {bs : List UInt8} (h : BIn M v bs) : ∃ a cap, v = .slice a bs.length cap ∧ bs.length ≤ cap := by
  obtain ⟨a, cap, hv, hc, _⟩ := h; exact ⟨a, cap, hv, hc⟩
/-- A new row among them. -/
theorem arrS_add (e : TypeId) (b : Nat) (cs : List Value) (M : Arrs) (H : List HP) : Ent (pts b (cl cs e) :: arrS e M :: H) (arrS e ((b, cs) :: M) :: H) :=
  Ent.fold (B := [_, _]) fun h hs => ⟨h, sub.refl h, star_mono (fun _ h => h) (fun _ h => Sep_one h) hs⟩
theorem BIn.row {M : Arrs} {b cap : Nat} {bs : List UInt8} (hc : bs.length ≤ cap) : BIn ((b, bV bs) :: M) (.slice (Option.some ⟨b, 0, none⟩) bs.length cap) bs :=
  ⟨_, cap, rfl, hc, .inr ⟨b, 0, bV bs, rfl, by simp, by rw [← bV_length]; simp⟩⟩
/-- A slice of its own becomes one of these. -/
theorem arrS_slc (e : TypeId) (v : Value) (bs : List UInt8) (M : Arrs) : ∀ h, star (slc e 1 v bs.length (bV bs)) (arrS e M) h → ∃ M', BIn M' v bs ∧ (∀ x ∈ M, x ∈ M') ∧ arrS e M' h := by
  rintro h ⟨h1, h2, ⟨hl, ⟨a, rfl, hn, he⟩ | ⟨b, o, cap, pre, junk, rfl, hp, hn, hc, hpt⟩⟩, hM, hd, hj⟩
  · have hb : bs = [] := List.eq_nil_of_length_eq_zero hn
    subst hb
    exact ⟨M, BIn.nil M a 0, fun _ h => h, emp_star ⟨h1, h2, he, hM, hd, hj⟩⟩
  · refine ⟨(b, pre ++ bV bs ++ junk) :: M, ⟨_, cap, rfl, hn, .inr ⟨b, o, pre ++ bV bs ++ junk, rfl, by simp, ?_⟩⟩, fun x hx => by simp [hx], ⟨h1, h2, hpt, hM, hd, hj⟩⟩
    subst hp
    rw [List.append_assoc, List.drop_left, ← bV_length bs, List.take_left]
/-- A part of what a slice holds. -/
theorem BIn.tail {M : Arrs} {b o n cap : Nat} {x : UInt8} {bs : List UInt8} (h : BIn M (.slice (Option.some ⟨b, o, none⟩) n cap) (x :: bs)) (o' cap' : Nat) (h1 : bs ≠ [] → o' = o + 1) (hc' : bs.length ≤ cap') : BIn M (.slice (Option.some ⟨b, o', none⟩) bs.length cap') bs := by
  by_cases h0 : bs = []
  · subst h0; exact BIn.nil _ _ _
  · have := h1 h0
    subst this
    obtain ⟨a, cap2, hv, _, h2 | ⟨b', o2, cs, ha, hm, ht⟩⟩ := h
    · cases h2
    · simp only [Value.slice.injEq] at hv
      obtain ⟨rfl, _, rfl⟩ := hv
      simp only [Option.some.injEq, Addr.mk.injEq, and_true] at ha
      obtain ⟨rfl, rfl⟩ := ha
      refine ⟨_, cap', rfl, hc', .inr ⟨b, o + 1, cs, rfl, hm, ?_⟩⟩
      rw [List.length_cons] at ht
      rw [show o + 1 = 1 + o by omega, ← List.drop_drop]
      have h3 := congrArg (List.drop 1) ht
      rw [List.drop_take] at h3
      simpa [bV, Nat.add_comm] using h3

/-- A piece of what a slice holds. -/
theorem BIn.piece {M : Arrs} {b o n cap : Nat} {bs : List UInt8} (h : BIn M (.slice (Option.some ⟨b, o, none⟩) n cap) bs) (o' cap' p k : Nat) (hpk : p + k ≤ bs.length) (h1 : k ≠ 0 → o' = o + p) (hc' : k ≤ cap') : BIn M (.slice (Option.some ⟨b, o', none⟩) k cap') ((bs.drop p).take k) := by
  have hl : ((bs.drop p).take k).length = k := by rw [List.length_take, List.length_drop]; omega
  by_cases h0 : k = 0
  · subst h0; rw [List.take_zero]; exact BIn.nil _ _ _
  · have := h1 h0
    subst this
    obtain ⟨a, cap2, hv, _, h2 | ⟨b', o2, cs, ha, hm, ht⟩⟩ := h
    · subst h2; simp only [List.length_nil] at hpk; omega
    · simp only [Value.slice.injEq] at hv
      obtain ⟨rfl, _, rfl⟩ := hv
      simp only [Option.some.injEq, Addr.mk.injEq, and_true] at ha
      obtain ⟨rfl, rfl⟩ := ha
      refine ⟨_, cap', by rw [hl], by rw [hl]; exact hc', .inr ⟨b, o + p, cs, rfl, hm, ?_⟩⟩
      rw [hl, ← List.drop_drop]
      have h3 := congrArg (fun l => (l.drop p).take k) ht
      simp only [List.drop_take, List.take_take] at h3
      rw [show min k (bs.length - p) = k by omega] at h3
      rw [h3]
      simp only [bV, List.map_drop, List.map_take]
theorem BIn.cut {M : Arrs} {a : Option Addr} {n cap : Nat} {bs : List UInt8} (h : BIn M (.slice a n cap) bs) (p k : Nat) (hpk : p + k ≤ bs.length) : BIn M (.slice (sliceAt a cap p 1) k (cap - p)) ((bs.drop p).take k) := by
  obtain ⟨a', cap', hv, hc, h0⟩ := h
  simp only [Value.slice.injEq] at hv
  obtain ⟨rfl, hn, rfl⟩ := hv
  by_cases hk : k = 0
  · subst hk; rw [List.take_zero]; exact BIn.nil _ _ _
  · rcases h0 with h0 | ⟨b, o, cs, rfl, hm, ht⟩
    · subst h0; simp only [List.length_nil] at hpk; omega
    · have e : sliceAt (Option.some ⟨b, o, none⟩) cap p 1 = Option.some ⟨b, o + p, none⟩ := by
        unfold sliceAt
        rw [if_neg (by omega), Option.map_some, Addr.add_eq, Nat.mul_one]
      rw [e]
      exact BIn.piece (o := o) (n := bs.length) (cap := cap) ⟨_, _, rfl, hc, .inr ⟨b, o, cs, rfl, hm, ht⟩⟩ _ _ p k hpk (fun _ => rfl) (by omega)
/-! ## stores: many assertions of one make, as one -/
def stock {α : Type} (g : α → HP) (l : List α) : HP := Sep (l.map g)
theorem stock_out {α : Type} (g : α → HP) {l : List α} {i : Nat} {x : α} (hi : l[i]? = Option.some x) (H : List HP) : Ent (stock g l :: H) (g x :: stock g (l.eraseIdx i) :: H) := fun h hs => by
  refine ⟨h, sub.refl h, star_assoc' (star_mono (fun h hs => ?_) (fun _ h => h) hs)⟩
  have h1 : (l.map g)[i]? = Option.some (g x) := by simp [hi]
  have h2 := Sep_perm (perm_of_get h1) h hs
  rw [← map_eraseIdx'] at h2
  exact h2
theorem stock_in {α : Type} (g : α → HP) {l : List α} {i : Nat} {x : α} (hi : l[i]? = Option.some x) (H : List HP) : Ent (g x :: stock g (l.eraseIdx i) :: H) (stock g l :: H) := fun h hs => by
  refine ⟨h, sub.refl h, star_mono (fun h hs => ?_) (fun _ h => h) (star_assoc hs)⟩
  have h1 : (l.map g)[i]? = Option.some (g x) := by simp [hi]
  refine Sep_perm (perm_of_get h1).symm h ?_
  rw [← map_eraseIdx']
  exact hs
/-- Put back as another one, in the same place. -/
theorem stock_set {α : Type} (g : α → HP) {l : List α} {i : Nat} {x y : α} (hi : l[i]? = Option.some x) (H : List HP) : Ent (g y :: stock g (l.eraseIdx i) :: H) (stock g (l.set i y) :: H) := by
  have hlt : i < l.length := by
    rcases Nat.lt_or_ge i l.length with h | h
    · exact h
    · rw [List.getElem?_eq_none h] at hi; cases hi
  have h1 : (l.set i y)[i]? = Option.some y := by simp [hlt]
  have h2 := stock_in g h1 H
  have h3 : (l.set i y).eraseIdx i = l.eraseIdx i := by
    clear hi h1 h2
    induction l generalizing i with
    | nil => simp
    | cons z l ih => cases i with
      | zero => simp
      | succ i => simp at hlt ⊢; exact ih hlt
  rw [h3] at h2
  exact h2
theorem stock_add {α : Type} (g : α → HP) (x : α) (l : List α) (H : List HP) : Ent (g x :: stock g l :: H) (stock g (x :: l) :: H) := fun h hs => ⟨h, sub.refl h, star_assoc hs⟩
theorem stock_mem {α : Type} {g : α → HP} {l : List α} {x : α} (hx : x ∈ l) {h : Hp} (hs : stock g l h) : ∃ h', sub h' h ∧ g x h' := Sep_mem (List.mem_map.2 ⟨x, hx, rfl⟩) hs

theorem arrS_nil (e : TypeId) (H : List HP) : Ent H (arrS e [] :: H) := Ent.addEmp H
theorem stock_nil {α : Type} (g : α → HP) (H : List HP) : Ent H (stock g [] :: H) := Ent.addEmp H
/-! ## the disk as plain data -/
structure Ab where
  room : Nat
  fs : List (Nat × List UInt8 × List UInt8)
  names : List (ByteArray × Nat)
  states : List (List (ByteArray × Nat))
  writes : List (Nat × Nat × List UInt8)
  plan : List UInt8
  off : Bool
namespace Ab
def meet (A : Ab) (may : Bool) : Nat × Ab :=
  if may = false then (1, A) else if A.off = true then (7, A) else match A.plan with
  | [] => (0, A)
  | x :: p => if x = 1 then (6, { A with plan := p }) else if x = 2 then (7, { A with plan := p, off := true }) else (0, { A with plan := p })
def lookIn (l : List (ByteArray × Nat)) (name : ByteArray) : Option Nat := (l.find? fun x => decide (x.1 = name)).map (·.2)
def look (A : Ab) (name : ByteArray) : Option Nat := lookIn A.names name
def file (A : Ab) (f : Nat) : List UInt8 × List UInt8 := ((A.fs.find? fun x => decide (x.1 = f)).map (·.2)).getD ([], [])
def now (A : Ab) (f : Nat) : List UInt8 := (A.file f).1
def sure (A : Ab) (f : Nat) : List UInt8 := (A.file f).2
def find (A : Ab) (name : ByteArray) (may : Bool) : Nat × Option Nat × Ab :=
  if (A.meet may).1 = 0 then match (A.meet may).2.look name with
    | none => (4, none, (A.meet may).2)
    | some f => (0, some f, (A.meet may).2)
  else ((A.meet may).1, none, (A.meet may).2)
def used (A : Ab) : Nat := (A.names.map fun x => (A.now x.2).length).sum
def new (room : Nat) : Ab := ⟨room, [], [], [[]], [], [], false⟩
def setN (l : List (ByteArray × Nat)) (k : ByteArray) (f : Nat) : List (ByteArray × Nat) := if (lookIn l k).isSome then l.map (fun x => if x.1 = k then (k, f) else x) else l ++ [(k, f)]
def delN (l : List (ByteArray × Nat)) (k : ByteArray) : List (ByteArray × Nat) := l.filter fun x => !decide (x.1 = k)
/-- Names changed. -/
def chg (A : Ab) (nm : List (ByteArray × Nat)) : Ab := { A with names := nm, states := A.states ++ [nm] }
def create (A : Ab) (ok : Bool) (name : ByteArray) (f : Nat) : Nat × Ab :=
  if (A.meet ok).1 = 0 then
    if ((A.meet ok).2.look name).isSome then (5, (A.meet ok).2)
    else if 200 ≤ (A.meet ok).2.names.length then (3, (A.meet ok).2)
    else (0, { (A.meet ok).2.chg ((A.meet ok).2.names ++ [(name, f)]) with fs := (f, [], []) :: (A.meet ok).2.fs })
  else ((A.meet ok).1, (A.meet ok).2)
def remove (A : Ab) (ok : Bool) (name : ByteArray) : Nat × Ab := match A.find name ok with
  | (0, some _, A1) => (0, A1.chg (delN A1.names name))
  | (e, _, A1) => (e, A1)
def rename (A : Ab) (ok : Bool) (old name : ByteArray) : Nat × Ab := match A.find old ok with
  | (0, some f, A1) => (0, A1.chg (setN (delN A1.names old) name f))
  | (e, _, A1) => (e, A1)
def upd (fs : List (Nat × List UInt8 × List UInt8)) (f : Nat) (n : List UInt8) : List (Nat × List UInt8 × List UInt8) := fs.map fun x => if x.1 = f then (x.1, n, x.2.2) else x
def write (A : Ab) (ok : Bool) (name : ByteArray) (at_ : Nat) (b : List UInt8) : Nat × Ab :=
  if (A.find name ok).1 = 0 then match (A.find name ok).2.1 with
    | some f => if (A.find name ok).2.2.room < (A.find name ok).2.2.used + (at_ + b.length - ((A.find name ok).2.2.now f).length) then (3, (A.find name ok).2.2)
      else (0, { (A.find name ok).2.2 with fs := upd (A.find name ok).2.2.fs f (wroteL ((A.find name ok).2.2.now f) at_ b), writes := (A.find name ok).2.2.writes ++ [(f, at_, b)] })
    | none => (0, (A.find name ok).2.2)
  else ((A.find name ok).1, (A.find name ok).2.2)
def size (A : Ab) (name : ByteArray) : Nat × Nat := match A.look name with
  | none => (0, 4)
  | some f => ((A.now f).length, 0)
def read (A : Ab) (name : ByteArray) (at_ n : Int) : List UInt8 × Nat :=
  if A.off = true then ([], 7) else match A.look name with
    | none => ([], 4)
    | some f => if at_ < 0 ∨ n < 0 ∨ ((A.now f).length : Int) < at_ ∨ ((A.now f).length : Int) - at_ < n then ([], 1) else (((A.now f).drop at_.toNat).take n.toNat, 0)
def syncNames (A : Ab) : Nat × Ab := if (A.meet true).1 = 0 then (0, { (A.meet true).2 with states := [(A.meet true).2.names] }) else ((A.meet true).1, (A.meet true).2)
def updS (fs : List (Nat × List UInt8 × List UInt8)) (f : Nat) : List (Nat × List UInt8 × List UInt8) := fs.map fun x => if x.1 = f then (x.1, x.2.1, x.2.1) else x
def sync (A : Ab) (ok : Bool) (name : ByteArray) : Nat × Ab :=
  if (A.find name ok).1 = 0 then match (A.find name ok).2.1 with
    | some f => (0, { (A.find name ok).2.2 with fs := updS (A.find name ok).2.2.fs f, writes := (A.find name ok).2.2.writes.filter fun x => !decide (x.1 = f) })
    | none => (0, (A.find name ok).2.2)
  else ((A.find name ok).1, (A.find name ok).2.2)
/-- What is kept of one write: whole if it is told, or cut, or nothing. -/
def kept (stay : List UInt8) (torn cut : Int) (i : Nat) (b : List UInt8) : Option (List UInt8) :=
  if (i : Int) = torn then (let c := b.take (max 0 (min cut b.length)).toNat; if c = [] then none else some c)
  else if (i / 8 < stay.length ∧ ((stay.getD (i / 8) 0).toNat / 2 ^ (i % 8)) % 2 = 1) then some b else none
def updSure (fs : List (Nat × List UInt8 × List UInt8)) (f : Nat) (s : List UInt8) : List (Nat × List UInt8 × List UInt8) := fs.map fun x => if x.1 = f then (x.1, x.2.1, s) else x
/-- The writes that last, in their order, from number i on. -/
def lasts (stay : List UInt8) (torn cut : Int) : Nat → List (Nat × Nat × List UInt8) → List (Nat × List UInt8 × List UInt8) → List (Nat × List UInt8 × List UInt8)
  | _, [], fs => fs
  | i, w :: ws, fs => match kept stay torn cut i w.2.2 with
    | none => lasts stay torn cut (i + 1) ws fs
    | some c => lasts stay torn cut (i + 1) ws (updSure fs w.1 (wroteL (((fs.find? fun x => decide (x.1 = w.1)).map (·.2)).getD ([], [])).2 w.2.1 c))
def reach (sts : List (List (ByteArray × Nat))) : List Nat := sts.flatMap fun st => st.map (·.2)
def crash (A : Ab) (last : Int) (stay : List UInt8) (torn cut : Int) : Ab :=
  let nm := A.states.getD (max 0 (min last (A.states.length - 1))).toNat []
  let fs := lasts stay torn cut 0 A.writes A.fs
  { A with names := nm, states := [nm], writes := [], plan := [], off := false, fs := fs.map fun x => if x.1 ∈ reach (A.states ++ [nm]) then (x.1, x.2.2, x.2.2) else x }
end Ab
end Go.SL
