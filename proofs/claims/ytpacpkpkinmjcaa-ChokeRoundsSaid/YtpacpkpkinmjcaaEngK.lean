/- Engine, part K: rows of any cells that nobody writes any more. Nothing here names a program. -/
import Derived.Test.YtpacpkpkinmjcaaFm
set_option linter.unusedVariables false
set_option linter.unusedSimpArgs false
namespace Go.SL
/-- The slice v holds the cells cs, n elements of s cells, in one of these rows. -/
def RIn (M : Arrs) (s : Nat) (v : Value) (n : Nat) (cs : List Value) : Prop :=
  cs.length = n * s ∧ ∃ a cap, v = .slice a n cap ∧ n ≤ cap ∧ (n = 0 ∨ ∃ b o row, a = Option.some ⟨b, o, none⟩ ∧ (b, row) ∈ M ∧ (row.drop o).take cs.length = cs)
theorem RIn.mono {M M' : Arrs} {s n : Nat} {v : Value} {cs : List Value} (h : RIn M s v n cs) (hs : ∀ x ∈ M, x ∈ M') : RIn M' s v n cs := by
  obtain ⟨hl, a, cap, hv, hc, h0 | ⟨b, o, row, ha, hm, ht⟩⟩ := h
  · exact ⟨hl, a, cap, hv, hc, .inl h0⟩
  · exact ⟨hl, a, cap, hv, hc, .inr ⟨b, o, row, ha, hs _ hm, ht⟩⟩
theorem RIn.nil (M : Arrs) (s : Nat) (a : Option Addr) (cap : Nat) : RIn M s (.slice a 0 cap) 0 [] := ⟨by simp, a, cap, rfl, Nat.zero_le _, .inl rfl⟩
theorem RIn.shape {M : Arrs} {s n : Nat} {v : Value} {cs : List Value} (h : RIn M s v n cs) : ∃ a cap, v = .slice a n cap ∧ n ≤ cap := by
  obtain ⟨_, a, cap, hv, hc, _⟩ := h; exact ⟨a, cap, hv, hc⟩
theorem RIn.view {M : Arrs} {s n : Nat} {v : Value} {cs : List Value} (h : RIn M s v n cs) (e : TypeId) : Vw (arrS e M) v n cs := by
  obtain ⟨hl, a, cap, rfl, hc, h0 | ⟨b, o, row, ha, hm, ht⟩⟩ := h
  · have : cs = [] := List.eq_nil_of_length_eq_zero (by rw [hl, h0, Nat.zero_mul])
    subst h0 this; exact ⟨a, cap, rfl, .inl rfl⟩
  · have h1 : Vw (pts b (cl row e)) (.slice a n cap) n cs := by rw [ha]; exact Vw.pts ht
    exact h1.mono fun h hs => Sep_mem (List.mem_map.2 ⟨(b, row), hm, rfl⟩) hs
/-- A slice of its own becomes one of these. -/
theorem row_slcO (e : TypeId) (s n : Nat) (v : Value) (cs : List Value) (M : Arrs) : ∀ h, star (slc e s v n cs) (arrS e M) h → ∃ M', (RIn M' s v n cs ∧ ∀ x ∈ M, x ∈ M') ∧ Sep [arrS e M'] h := by
  rintro h ⟨h1, h2, ⟨hl, ⟨a, rfl, hn, he⟩ | ⟨b, o, cap, pre, junk, rfl, hp, hn, hc, hpt⟩⟩, hM, hd, hj⟩
  · have : cs = [] := List.eq_nil_of_length_eq_zero (by rw [hl, hn, Nat.zero_mul])
    subst hn this
    exact ⟨M, ⟨RIn.nil M s a 0, fun _ h => h⟩, Sep_one' (emp_star ⟨h1, h2, he, hM, hd, hj⟩)⟩
  · refine ⟨(b, pre ++ cs ++ junk) :: M, ⟨⟨hl, _, cap, rfl, hn, .inr ⟨b, o, pre ++ cs ++ junk, rfl, by simp, ?_⟩⟩, fun x hx => by simp [hx]⟩, Sep_one' ⟨h1, h2, hpt, hM, hd, hj⟩⟩
    subst hp
    rw [List.append_assoc, List.drop_left, List.take_left]
/-- A contract over heaps that say the same. -/
theorem Ctr.conv {P : Program} {f : FuncId} {args : List Value} {Pre Pre' : List HP} {Post Post' : Value → List HP → Prop} (c : Ctr P f args Pre Post) (h : Ent Pre' Pre) (hp : ∀ v H, Post v H → ∃ H', Post' v H' ∧ Ent H H') : Ctr P f args Pre' Post' :=
  ⟨c.1, fun G w F hw => (c.2 G w F (hw.ent (Ent.append F h))).mono fun e w' h' => let ⟨v, H, he, hpo, hs⟩ := h'; let ⟨H', hq, hE⟩ := hp v H hpo; ⟨v, H', he, hq, hs.ent (Ent.append F hE)⟩⟩
end Go.SL
