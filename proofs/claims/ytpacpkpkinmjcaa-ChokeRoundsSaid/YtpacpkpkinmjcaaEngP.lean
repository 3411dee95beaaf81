/- Engine, part P: one cell of a row; stores turned round and cut; a slice cut short. Nothing here names a program. -/
import Derived.Test.YtpacpkpkinmjcaaEngO
import Derived.Test.YtpacpkpkinmjcaaFm
set_option linter.unusedVariables false
set_option linter.unusedSimpArgs false
namespace Go.SL
/-- One cell of a row, whatever the others hold. -/
def cellP (b off : Nat) (v : Value) : HP := fun h => hcell h b off = some v
theorem cellP_of {b off : Nat} {v : Value} {l : List Value} {e : TypeId} (hv : l[off]? = some v) (H : List HP) : Ent (pts b (cl l e) :: H) (cellP b off v :: H) :=
  Ent.head (B := [cellP b off v]) fun h hs => ⟨h, sub.refl h, Sep_one' (by
    have h1 := (Vw.pts (b := b) (l := l) (e := e) (o := 0) (n := l.length) (cap := l.length) (cs := l) (by simp)).cell hv h hs
    rw [Nat.zero_add] at h1; exact h1)⟩
theorem cellP_view (b off : Nat) (v : Value) : Vw (cellP b off v) (.slice (some ⟨b, off, none⟩) 1 1) 1 [v] :=
  ⟨_, _, rfl, .inr ⟨b, off, rfl, fun h hA j c hj => by
    cases j with
    | zero => simp at hj; subst hj; exact hA
    | succ j => simp at hj⟩⟩
theorem stock_perm {α : Type} (g : α → HP) {l l' : List α} (hp : l.Perm l') (H : List HP) : Ent (stock g l :: H) (stock g l' :: H) := fun h hs => ⟨h, sub.refl h, star_mono (fun h hs => Sep_perm (hp.map g) h hs) (fun _ h => h) hs⟩
theorem stock_take {α : Type} (g : α → HP) (l : List α) (m : Nat) (H : List HP) : Ent (stock g l :: H) (stock g (l.take m) :: H) := by
  refine Ent.head (B := [stock g (l.take m)]) fun h hs => ?_
  have h1 : Sep ((l.take m).map g ++ (l.drop m).map g) h := by rw [← List.map_append, List.take_append_drop]; exact hs
  obtain ⟨h', hs', hS⟩ := star_left (Sep_append h1)
  exact ⟨h', hs', Sep_one' hS⟩
theorem slc_cut {e : TypeId} {sz b o c n m : Nat} {cs : List Value} (hm : m ≤ n) (h0 : 0 < n) (H : List HP) : Ent (slc e sz (.slice (some ⟨b, o, none⟩) n c) n cs :: H) (slc e sz (.slice (some ⟨b, o, none⟩) m c) m (cs.take (m * sz)) :: H) := by
  refine Ent.head (B := [slc e sz (.slice (some ⟨b, o, none⟩) m c) m (cs.take (m * sz))]) fun h hs => ?_
  obtain ⟨⟨pre, junk⟩, ⟨h1, h2, h3, h4⟩, h5⟩ := slc_openN h0 h hs
  simp only at h1 h2 h3 h4 h5
  have hmz : m * sz ≤ n * sz := Nat.mul_le_mul_right sz hm
  have hl : (cs.take (m * sz)).length = m * sz := by rw [List.length_take, h4]; omega
  refine ⟨h, sub.refl h, Sep_one' ⟨hl, .inr ⟨b, o, c, pre, cs.drop (m * sz) ++ junk, rfl, h1, by omega, ?_, ?_⟩⟩⟩
  · rw [hl, List.length_append, List.length_drop, h4]; rw [h4] at h3; omega
  · have := Sep_one h5
    rw [show pre ++ cs.take (m * sz) ++ (cs.drop (m * sz) ++ junk) = pre ++ cs ++ junk from by rw [List.append_assoc, ← List.append_assoc (cs.take _), List.take_append_drop, List.append_assoc]]
    exact this
theorem stockV_mem {α : Type} {g : α → HP} {l : List α} {x : α} (hx : x ∈ l) {h : Hp} (hs : stock g l h) : ∃ h', sub h' h ∧ g x h' := stock_mem hx hs
theorem K_slcLe {P : Program} {f : FuncId} {n : Nat} {R : Ending → World → Prop} {G : Glob} {k : List Item} {L : Lst} {H : List HP} {e : TypeId} {sz nn c : Nat} {a : Option Addr} {cs : List Value} (i : Nat) (hi : getL H i = some (slc e sz (.slice a nn c) nn cs))
    (h : nn ≤ c → cs.length = nn * sz → Vw (slc e sz (.slice a nn c) nn cs) (.slice a nn c) nn cs → K P f n R G k L H) : K P f n R G k L H :=
  K_sat fun ⟨w, hw⟩ => by
    obtain ⟨h1, _, hA⟩ := hw.getA hi
    have hv := Vw.of_slc e sz _ nn cs ⟨h1, hA⟩
    obtain ⟨hl, ⟨a, hv1, rfl, _⟩ | ⟨b, o, cap, pre, junk, hv1, _, hc, _⟩⟩ := hA
    · simp only [Value.slice.injEq] at hv1; exact h (by omega) hl hv
    · simp only [Value.slice.injEq] at hv1; exact h (by omega) hl hv
theorem Vw.cut0 {A : HP} {a : Option Addr} {n cap s : Nat} {cs : List Value} (h : Vw A (.slice a n cap) n cs) (k : Nat) : Vw A (.slice (sliceAt a cap 0 s) k cap) k (cs.take (k * s)) := by
  have h' := h
  obtain ⟨a', cap2, hv, h0 | ⟨b', o', ha, hc⟩⟩ := h
  · subst h0; exact ⟨_, cap, rfl, .inl (by simp)⟩
  · simp only [Value.slice.injEq, true_and] at hv
    obtain ⟨rfl, _⟩ := hv
    subst ha
    rw [sliceAt_zero]
    exact h'.front k cap (k * s)
theorem Vw.cutk {A : HP} {a : Option Addr} {n cap s : Nat} {cs : List Value} (h : Vw A (.slice a n cap) n cs) (hl : cs.length = n * s) (hn : n ≤ cap) (k : Nat) (hk : k ≤ n) : Vw A (.slice (sliceAt a cap k s) (n - k) (cap - k)) (n - k) (cs.drop (k * s)) := by
  have h' := h
  obtain ⟨a', cap2, hv, h0 | ⟨b', o', ha, hc⟩⟩ := h
  · subst h0; exact ⟨_, _, rfl, .inl (by simp)⟩
  · simp only [Value.slice.injEq, true_and] at hv
    obtain ⟨rfl, _⟩ := hv
    subst ha
    by_cases hkc : k = cap
    · have : cs.drop (k * s) = [] := List.eq_nil_of_length_eq_zero (by rw [List.length_drop, hl, hkc, show n = cap from by omega]; omega)
      rw [this]; exact ⟨_, _, rfl, .inl rfl⟩
    · rw [sliceAt_some _ _ _ _ _ hkc]
      exact h'.back (n - k) (cap - k) (k * s)
theorem stock_split {α : Type} (g : α → HP) (l : List α) (m : Nat) (H : List HP) : Ent (stock g l :: H) (stock g (l.take m) :: stock g (l.drop m) :: H) := fun h hs => by
  refine ⟨h, sub.refl h, star_assoc' (star_mono (fun h hs => ?_) (fun _ h => h) hs)⟩
  have h1 : Sep ((l.take m).map g ++ (l.drop m).map g) h := by rw [← List.map_append, List.take_append_drop]; exact hs
  exact Sep_append h1
theorem take_first {α : Type} {P : α → Bool} (l : List α) (i : Nat) (h1 : ∀ y ∈ l.take i, P y = true) (h2 : l.length ≤ i ∨ ∃ x, l[i]? = Option.some x ∧ P x = false) : l.take i = l.takeWhile P ∧ l.drop i = l.dropWhile P := by
  induction l generalizing i with
  | nil => simp
  | cons y l ih =>
    cases i with
    | zero =>
      rcases h2 with h2 | ⟨x, hx, hp⟩
      · simp at h2
      · simp at hx; subst hx; simp [List.takeWhile_cons, List.dropWhile_cons, hp]
    | succ i =>
      have hy : P y = true := h1 y (by simp)
      have := ih i (fun z hz => h1 z (by simp [hz])) (by simpa using h2)
      simp [List.takeWhile_cons, List.dropWhile_cons, hy, this.1, this.2]
theorem takeWhile_all {α : Type} {P : α → Bool} : ∀ (l : List α), ∀ x ∈ l.takeWhile P, P x = true := by
  intro l
  induction l with
  | nil => intro x hx; simp at hx
  | cons y l ih =>
    intro x hx
    rw [List.takeWhile_cons] at hx
    split at hx
    · rename_i h
      rcases List.mem_cons.1 hx with rfl | hx
      · exact h
      · exact ih x hx
    · cases hx
end Go.SL
