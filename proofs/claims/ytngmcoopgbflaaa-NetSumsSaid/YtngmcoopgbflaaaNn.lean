/- net, part n: awake; plain laws of NetOwn. -/
import Derived.Test.YtngmcoopgbflaaaNm
set_option linter.unusedVariables false
set_option linter.unusedSimpArgs false
namespace Go.Proofs.Ytngmcoopgbflaaa
open Go Go.SL
attribute [local irreducible] J K Ctr Ends pts slc mapR mapI sbRow stock arrS

theorem map_nil' {W : List Fl} (h : W.map Fl.a = []) : W = [] := by simpa using h
theorem map_one' {W : List Fl} {x : Fa} (h : W.map Fl.a = [x]) : ∃ y, W = [y] ∧ y.a = x := by
  match W, h with
  | [y], h => exact ⟨y, rfl, by simpa using h⟩
theorem map_two' {W : List Fl} {x1 x2 : Fa} (h : W.map Fl.a = [x1, x2]) : ∃ y1 y2, W = [y1, y2] ∧ y1.a = x1 ∧ y2.a = x2 := by
  match W, h with
  | [y1, y2], h => exact ⟨y1, y2, rfl, by simp at h; exact h.1, by simp at h; exact h.2⟩
theorem awake_send : (NA.new 2 5).send 1 0 4 [7] = (0, ⟨2, 5, 1, 0, [⟨1, 1, 0, 4, [7]⟩]⟩) := by simp [NA.send, NA.new, NA.fresh, insA, okMoment]
theorem awake_due3 : (⟨2, 5, 1, 0, [⟨1, 1, 0, 4, [7]⟩]⟩ : NA).due 3 = ([], ⟨2, 5, 1, 0, [⟨1, 1, 0, 4, [7]⟩]⟩) := by simp [NA.due]
theorem awake_due4 : (⟨2, 5, 1, 0, [⟨1, 1, 0, 4, [7]⟩]⟩ : NA).due 4 = ([⟨1, 1, 0, 4, [7]⟩], ⟨2, 5, 1, 0, []⟩) := by simp [NA.due]
set_option maxRecDepth 20000 in
theorem awake_any : Ctr Try.prog 7 [] [] (fun v H => v = .bool true ∧ H = []) := by
  refine Ctr.enter Try.func7 (by kernel_rfl) rfl Try.ntmps7 rfl rfl ?_
  intro G F R hE
  (refine go ?_)
  refine J_call [] rfl rfl rfl rfl (New_good 2 5 (by omega) (by omega) (by omega) (by omega)) rfl (fun _ _ _ _ _ => trivial) ?_
  rintro _ _ ⟨bn, D, hD, ha, rfl, rfl⟩
  (refine go ?_)
  refine J_buildSlice1 (U := tab) rfl rfl rfl rfl rfl rfl rfl rfl rfl (fun _ _ _ => trivial) ?_
  intro b0
  refine J_call [1, 0] rfl rfl rfl rfl (Send_any bn 0 D hD (by omega) (pts b0 (cl [.int .u8 7] 5)) 1 0 4 _ [7] (Vw.pts rfl) (by simp)) rfl (fun _ _ _ _ _ => trivial) ?_
  rw [ha, show NA.new (Int.toNat 2) (Int.toNat 5) = NA.new 2 5 from rfl, awake_send]
  rintro _ _ ⟨D1, hD1, ha1, rfl, rfl⟩
  simp only at ha1
  (refine go ?_)
  refine J_call [0] rfl rfl rfl rfl (Due_any bn _ D1 hD1 3 ⟨by omega, by omega⟩) rfl (fun _ _ _ _ _ => trivial) ?_
  rw [ha1, awake_due3]
  rintro _ _ ⟨D2, out, W, hD2, ha2, ⟨_, hW⟩, rfl, rfl⟩
  simp only at ha2 hW
  have hW0 := map_nil' hW
  subst hW0
  refine J_shape 1 rfl ?_
  rintro wa wc rfl
  (refine go ?_)
  refine J_call [0] rfl rfl rfl rfl (Due_any bn _ D2 hD2 4 ⟨by omega, by omega⟩) rfl (fun _ _ _ _ _ => trivial) ?_
  rw [ha2, awake_due4]
  rintro _ _ ⟨D3, out2, W2, hD3, ha3, ⟨_, hW2⟩, rfl, rfl⟩
  simp only at ha3 hW2
  obtain ⟨y, rfl, hy⟩ := map_one' hW2
  refine J_shape 1 rfl ?_
  rintro wa2 wc2 rfl
  (refine go ?_)
  refine J_sat fun w hw => ?_
  have hvw : Vw (ws (.slice wa2 [y].length wc2) [y]) (.slice wa2 [y].length wc2) [y].length ([y].flatMap fcell) := by
    obtain ⟨h1, _, hA⟩ := hw.getA (i := 1) rfl
    exact Vw.of_slc _ _ _ _ _ ⟨h1, hA⟩
  clear hw w
  obtain ⟨bb, oo, cc, hsl⟩ := hvw.some (by simp [fcell])
  simp only [Value.slice.injEq] at hsl
  obtain ⟨rfl, _, rfl⟩ := hsl
  have hsrc : y.src = 1 := congrArg Fa.src hy
  refine J_at (U := tab) 0 5 rfl rfl rfl rfl rfl rfl rfl rfl (by simp) ?_
  (refine go ?_)
  refine J_loadAt (U := tab) 1 (0 * 5 + 1) rfl rfl rfl hvw (Nat.add_assoc _ _ _) (c := .int .i64 1) (by simp [fcell, hsrc]) rfl rfl ?_
  (refine go ?_)
  refine K_return hE Try.func7 rfl _ rfl ⟨rfl, rfl⟩ (Ent.fin [] 6 rfl rfl)
end Go.Proofs.Ytngmcoopgbflaaa
