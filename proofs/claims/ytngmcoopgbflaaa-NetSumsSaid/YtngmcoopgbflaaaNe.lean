/- net, part e: the net as plain data; put. -/
import Derived.Test.YtngmcoopgbflaaaNd
set_option linter.unusedVariables false
set_option linter.unusedSimpArgs false
namespace Go.Proofs.Ytngmcoopgbflaaa
open Go Go.SL
attribute [local irreducible] J K Ctr Ends pts slc mapR mapI sbRow stock arrS

/-- A datagram as it is told. -/
structure Fa where
  num : Int
  src : Int
  dst : Int
  due : Int
  bs : List UInt8
def Fl.a (x : Fl) : Fa := ⟨x.num, x.src, x.dst, x.due, x.bs⟩
def ltA (x y : Fa) : Prop := x.due < y.due ∨ (x.due = y.due ∧ x.num < y.num)
instance (x y : Fa) : Decidable (ltA x y) := by unfold ltA; infer_instance
theorem cmpF_lt (x y : Fl) : cmpF x y < 0 ↔ ltA x.a y.a := by
  unfold cmpF cmpI ltA Fl.a
  simp only
  repeat (first | split | omega)
  all_goals omega
/-- Put at its place. -/
def insA (f : Fa) (l : List Fa) : List Fa := l.takeWhile (fun x => decide (ltA x f)) ++ f :: l.dropWhile (fun x => decide (ltA x f))
theorem split_at {α : Type} {P : α → Bool} : ∀ (l : List α) (p : Nat), p ≤ l.length → (∀ (i : Nat) (x : α), i < p → l[i]? = some x → P x = true) → (∀ (i : Nat) (x : α), p ≤ i → l[i]? = some x → P x = false) → l.take p = l.takeWhile P ∧ l.drop p = l.dropWhile P := by
  intro l
  induction l with
  | nil => intro p hp _ _; simp
  | cons y l ih =>
    intro p hp h1 h2
    cases p with
    | zero =>
      have := h2 0 y (Nat.le_refl _) rfl
      simp [List.takeWhile_cons, List.dropWhile_cons, this]
    | succ p =>
      have hy := h1 0 y (by omega) rfl
      have := ih p (by simp at hp; omega) (fun i x hi hx => h1 (i + 1) x (by omega) (by simpa using hx)) (fun i x hi hx => h2 (i + 1) x (by omega) (by simpa using hx))
      simp [List.takeWhile_cons, List.dropWhile_cons, hy, this.1, this.2]
theorem insAt_abs {W : List Fl} {f : Fl} {p : Nat} (hp : p ≤ W.length) (h1 : ∀ (i : Nat) (x : Fl), i < p → W[i]? = some x → cmpF x f < 0) (h2 : ∀ (i : Nat) (x : Fl), p ≤ i → W[i]? = some x → ¬ cmpF x f < 0) : (insAt W p f).map Fl.a = insA f.a (W.map Fl.a) := by
  have h := split_at (P := fun x => decide (ltA x f.a)) (W.map Fl.a) p (by simpa using hp) (fun i x hi hx => by
    rw [List.getElem?_map] at hx
    cases hw : W[i]? with
    | none => rw [hw] at hx; cases hx
    | some y =>
      rw [hw] at hx; cases hx
      exact decide_eq_true ((cmpF_lt _ _).1 (h1 i y hi hw))) (fun i x hi hx => by
    rw [List.getElem?_map] at hx
    cases hw : W[i]? with
    | none => rw [hw] at hx; cases hx
    | some y =>
      rw [hw] at hx; cases hx
      exact decide_eq_false (fun hc => h2 i y hi hw ((cmpF_lt _ _).2 hc)))
  unfold insAt insA
  rw [List.map_append, List.map_cons, List.map_take, List.map_drop, h.1, h.2]
abbrev Sorted (l : List Fa) : Prop := l.Pairwise ltA
theorem ltA_trans {x y z : Fa} (h1 : ltA x y) (h2 : ltA y z) : ltA x z := by unfold ltA at *; omega
theorem sorted_mono {W : List Fl} (hs : Sorted (W.map Fl.a)) (t : Fl) (i j : Nat) (x y : Fl) (hx : W[i]? = some x) (hy : W[j]? = some y) (hij : i ≤ j) (hc : cmpF y t < 0) : cmpF x t < 0 := by
  rcases Nat.lt_or_ge i j with h | h
  · have hi : i < W.length := by
      rcases Nat.lt_or_ge i W.length with h | h
      · exact h
      · rw [List.getElem?_eq_none h] at hx; cases hx
    have hj : j < W.length := by
      rcases Nat.lt_or_ge j W.length with h | h
      · exact h
      · rw [List.getElem?_eq_none h] at hy; cases hy
    have h1 := List.pairwise_iff_getElem.1 hs i j (by simpa using hi) (by simpa using hj) h
    rw [List.getElem?_eq_getElem hi] at hx
    rw [List.getElem?_eq_getElem hj] at hy
    cases hx; cases hy
    simp only [List.getElem_map] at h1
    exact (cmpF_lt _ _).2 (ltA_trans h1 ((cmpF_lt _ _).1 hc))
  · have : i = j := by omega
    subst this
    rw [hx] at hy; cases hy; exact hc
def pn (bn : Nat) (nodes most : Nat) (way : Value) (sent lost : Nat) : HP := pts bn (cl [.int .i64 (nodes : Int), .int .i64 (most : Int), way, .int .i64 (sent : Int), .int .i64 (lost : Int)] 57)
def ws (way : Value) (W : List Fl) : HP := slc 34 5 way W.length (W.flatMap fcell)
set_option maxRecDepth 20000 in
theorem put_any (bn nodes most sent lost : Nat) (way : Value) (W : List Fl) (f : Fl) (hs : Sorted (W.map Fl.a)) (hW : OneV W) (hf : f.v.oneCell' = true) (hlen : W.length ≤ 100000000) :
    Ctr Try.prog 31 [ptr bn, .agg (fcell f).toArray] [pn bn nodes most way sent lost, ws way W]
      (fun _ H => ∃ way' W', (W'.Perm (f :: W) ∧ W'.map Fl.a = insA f.a (W.map Fl.a)) ∧ H = [pn bn nodes most way' sent lost, ws way' W']) := by
  refine Ctr.enter Try.func31 (by kernel_rfl) rfl Try.ntmps31 rfl rfl ?_
  intro G F R hE
  refine K_shape 1 rfl ?_
  rintro a0 c0 rfl
  (refine go ?_)
  refine J_box rfl rfl (fun _ _ _ => trivial) ?_
  intro bf
  rw [cellsF]
  (refine go ?_)
  refine K_sat fun hsat => ?_
  have hvw : Vw (ws (.slice a0 W.length c0) W) (.slice a0 W.length c0) W.length (W.flatMap fcell) := by
    obtain ⟨w, hw⟩ := hsat
    obtain ⟨h1, _, hA⟩ := hw.getA (i := 2) rfl
    exact Vw.of_slc _ _ _ _ _ ⟨h1, hA⟩
  refine K_drawA (fun w => Sat G w ([pts bf (cl (fcell f) 34), pts bn (cl [.int .i64 (nodes : Int), .int .i64 (most : Int), .slice a0 W.length c0, .int .i64 (sent : Int), .int .i64 (lost : Int)] 57)])) (.st 0 (.st 1 (.st 2 (.st 3 (.st 4 (.act 5 (.st 6 (.st 7 (.st 8 (.st 9 (.st 10 .nil))))))))))) rfl (by kernel_rfl) (by kernel_rfl) (by kernel_rfl) (fun w hw => hw.ent (Ent.pickOnly ([0, 1]) rfl)) ?_
  (refine go ?_)
  refine J_loadElemS (U := tab) (es := fcell f) (o := 0) (nn := 1) (cap := 1) 0 0 rfl rfl rfl (Vw.pts rfl) rfl fcell_get0 rfl rfl rfl ?_
  refine J_call [2] rfl rfl rfl rfl (Search_any (ws (.slice a0 W.length c0) W) _ W f hvw (by omega) (sorted_mono hs f)) rfl (fun _ _ w hp hw => by obtain ⟨_, _, _, _, rfl⟩ := hp; exact hw.ent (Ent.pickOnly [1, 2] rfl)) ?_
  rintro _ _ ⟨p, found, ⟨hp, hp1, hp2⟩, rfl, rfl⟩
  (refine go ?_)
  refine K_drawA (fun w => Sat G w ([pts bf (cl (fcell f) 34), pts bn (cl [.int .i64 (nodes : Int), .int .i64 (most : Int), .slice a0 W.length c0, .int .i64 (sent : Int), .int .i64 (lost : Int)] 57)])) (.st 0 (.st 1 (.st 2 (.st 3 (.st 4 (.st 5 (.st 6 (.act 7 (.act 8 (.st 9 (.st 10 (.act 11 .nil)))))))))))) rfl (by kernel_rfl) (by kernel_rfl) (by kernel_rfl) (fun w hw => hw.ent (Ent.pickOnly ([1, 2]) rfl)) ?_
  (refine go ?_)
  refine J_loadElemS (U := tab) (es := fcell f) (o := 0) (nn := 1) (cap := 1) 0 0 rfl rfl rfl (Vw.pts rfl) rfl fcell_get0 rfl rfl rfl ?_
  (refine go ?_)
  refine J_buildSlice1 (U := tab) (cs := fcell f) rfl rfl rfl rfl rfl rfl rfl rfl rfl (fun _ w hw => hw.ent (Ent.pickOnly ([2, 3]) rfl)) ?_
  intro b3
  refine J_call [1, 0] rfl rfl rfl rfl (Insert_any _ W f b3 p hp hW hf (by omega)) rfl (fun _ _ w hp hw => by subst hp; exact hw.ent (Ent.pickOnly [1, 2] rfl)) ?_
  rintro r _ rfl
  refine J_shape 0 rfl ?_
  rintro a1 c1 rfl
  (refine go ?_)
  have hwl := insAt_len W p f
  rw [show slc 34 5 (.slice a1 (W.length + 1) c1) (W.length + 1) ((insAt W p f).flatMap fcell) = ws (.slice a1 (W.length + 1) c1) (insAt W p f) from by unfold ws; rw [hwl]]
  refine K_fallEnd hE Try.func31 rfl _ rfl ⟨_, _, ⟨List.perm_middle.trans (by rw [List.take_append_drop]), insAt_abs hp hp1 hp2⟩, rfl⟩ (Ent.fin [2, 0] 1 rfl rfl)
end Go.Proofs.Ytngmcoopgbflaaa
