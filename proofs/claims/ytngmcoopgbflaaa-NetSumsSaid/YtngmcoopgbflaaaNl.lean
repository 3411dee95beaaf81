/- net, part l: Way. -/
import Derived.Test.YtngmcoopgbflaaaNk
import Derived.Test.YtngmcoopgbflaaaEngQ
set_option linter.unusedVariables false
set_option linter.unusedSimpArgs false
namespace Go.Proofs.Ytngmcoopgbflaaa
open Go Go.SL
attribute [local irreducible] J K Ctr Ends pts slc mapR mapI sbRow stock arrS

theorem fcell_setv (M : List Fl) (x : Fl) (W : List Fl) (v : Value) : ((M ++ x :: W).flatMap fcell).set (M.length * 5 + 4) v = (M ++ { x with v := v } :: W).flatMap fcell := by
  rw [List.flatMap_append, List.flatMap_append, List.flatMap_cons, List.flatMap_cons, List.set_append_right _ _ (by rw [chunk_len fcell_len]; omega), chunk_len fcell_len, show M.length * 5 + 4 - M.length * 5 = 4 from by omega, List.set_append_left _ _ (by rw [fcell_len]; omega)]
  rfl
set_option maxRecDepth 20000 in
theorem Way_any (bn k : Nat) (D : NetD) (hD : NOk D k) :
    Ctr Try.prog 12 [ptr bn] [nt bn D]
      (fun v H => ∃ W, (W.map Fl.a = D.a.way ∧ ∀ x ∈ W, ∃ a c, x.v = .slice a x.bs.length c) ∧ H = [ws v W, stock flB W, nt bn D]) := by
  obtain ⟨nodes, most, sent, lost, way, wl⟩ := D
  have hlen := hD.len
  have hmo := hD.most
  simp only at hlen hmo
  refine Ctr.enter Try.func12 (by kernel_rfl) rfl Try.ntmps12 rfl rfl ?_
  intro G F R hE
  refine K_ent (nt_o _ _ _ _ _ _ _ _) ?_
  refine K_shape 1 rfl ?_
  rintro wa wc rfl
  refine K_slcLe 1 rfl ?_
  intro hwc hcl hvw
  (refine go ?_)
  refine J_call [1] rfl rfl rfl rfl (CloneF_any (ws (.slice wa wl.length wc) wl) _ wl hvw hD.one (by omega)) rfl (fun _ _ _ _ _ => trivial) ?_
  rintro out _ rfl
  refine J_shape 0 rfl ?_
  rintro oa oc rfl
  (refine go ?_)
  refine K_ent (stock_nil flB _) ?_
  refine K_loop (fun s : Nat × List Fl => (s.1 ≤ wl.length ∧ s.2.length = s.1) ∧ s.2.map Fl.a = (wl.take s.1).map Fl.a ∧ ∀ x ∈ s.2, ∃ a c, x.v = .slice a x.bs.length c) (fun s => wl.length - s.1)
    (fun s => [(3, .slice oa wl.length oc), (11, .int .i64 wl.length), (12, .int .i64 s.1)])
    (fun s => slc 34 5 (.slice oa wl.length oc) wl.length ((s.2 ++ wl.drop s.1).flatMap fcell) :: stock flB s.2 :: pn bn nodes most (.slice wa wl.length wc) sent lost :: ws (.slice wa wl.length wc) wl :: stock flB wl :: F)
    (0, []) ⟨⟨Nat.zero_le _, rfl⟩, by simp, by simp⟩ rfl (by repeat (first | exact keep_nil | refine keep_cons rfl ?_)) (Ent.to [1, 0, 3, 2, 4] 0 rfl rfl rfl) ?_
  rintro ⟨i, N⟩ ⟨⟨hi, hN⟩, hmap, hvs⟩ ih
  simp only at hi hN hmap hvs
  (refine go ?_)
  refine K_condP rfl rfl ?_ ?_
  · intro hlt
    simp only at hlt
    have hi' : i < wl.length := by omega
    obtain ⟨x, hx⟩ : ∃ x, wl[i]? = some x := ⟨wl[i], by simp⟩
    have hxm := List.mem_of_getElem? hx
    obtain ⟨va, vc, hxv⟩ := hD.vs x hxm
    have hdr : wl.drop i = x :: wl.drop (i + 1) := by
      have h1 : wl[i] = x := by rw [List.getElem?_eq_getElem hi'] at hx; exact Option.some.inj hx
      rw [List.drop_eq_getElem_cons hi', h1]
    have hget : (N ++ wl.drop i)[i]? = some x := by rw [hdr, ← hN]; simp
    simp only
    refine K_slcF 0 rfl (by omega) ?_
    rintro ba oo ca hsl hca _ hvo
    simp only [Value.slice.injEq, true_and] at hsl
    obtain ⟨rfl, rfl⟩ := hsl
    (refine go ?_)
    refine J_at (U := tab) i 5 rfl rfl rfl rfl rfl rfl rfl rfl hi' ?_
    (refine go ?_)
    refine J_loadAt (U := tab) 0 (i * 5 + 4) rfl rfl rfl hvo (Nat.add_assoc _ _ _) (fcell_get hget 4 x.v rfl) rfl rfl ?_
    (refine go ?_)
    refine J_sat fun w hw => ?_
    have hvx := flB_view (j := 4) hw rfl hxm
    clear hw w
    refine J_call [4] rfl rfl rfl rfl (CloneB_any (stock flB wl) x.v x.bs hvx (by have := hD.bytes x hxm; omega)) rfl (fun _ _ _ _ _ => trivial) ?_
    rintro r _ rfl
    refine J_shape 0 rfl ?_
    rintro ra rc rfl
    (refine go ?_)
    refine J_at (U := tab) i 5 rfl rfl rfl rfl rfl rfl rfl rfl hi' ?_
    (refine go ?_)
    refine J_storeSlcN (U := tab) (q := i * 5 + 4) 2 (fun _ _ => trivial) rfl (Nat.add_assoc _ _ _) rfl rfl rfl rfl rfl rfl (by omega) (by omega) rfl ?_
    rw [hdr, show i * 5 + 4 = N.length * 5 + 4 from by rw [hN], fcell_setv]
    (refine go ?_)
    obtain ⟨x', hx'⟩ : ∃ x' : Fl, x' = ⟨x.num, x.src, x.dst, x.due, .slice ra x.bs.length rc, x.bs⟩ := ⟨_, rfl⟩
    refine K_ent (Ent.pick [0, 3] rfl) ?_
    rw [← hx', show slc 5 1 (.slice ra x.bs.length rc) x.bs.length (bV x.bs) = flB x' from by rw [hx']; rfl]
    refine K_ent (stock_add flB x' N _) ?_
    refine K_ent (stock_perm flB (List.perm_append_singleton x' N).symm _) ?_
    rw [show N ++ x' :: wl.drop (i + 1) = (N ++ [x']) ++ wl.drop (i + 1) from by simp]
    refine K_again ih (i + 1, N ++ [x']) rfl ⟨⟨by simp only; omega, by simp only [List.length_append, List.length_singleton]; omega⟩, by
      simp only [List.map_append, hmap, List.take_add_one, hx, Option.toList_some, List.map_cons, List.map_nil]
      rw [hx']; rfl, fun z hz => by
      (rcases List.mem_append.1 hz with h | h; exact hvs z h; simp only [List.mem_singleton] at h; subst h; exact ⟨ra, rc, by rw [hx']⟩)⟩ (by simp only; omega) (by repeat (first | exact keep_nil | refine keep_cons rfl ?_)) (Ent.to [2, 0, 3, 4, 1] 0 rfl rfl rfl)
  · intro hge
    simp only at hge
    have hie : i = wl.length := by omega
    subst hie
    (refine go ?_)
    simp only [List.drop_length, List.append_nil]
    rw [show slc 34 5 (.slice oa wl.length oc) wl.length (N.flatMap fcell) = ws (.slice oa wl.length oc) N from by unfold ws; rw [hN]]
    refine K_ent (Ent.pick [2, 3, 4] rfl) ?_
    refine K_ent (nt_c bn nodes most sent lost (.slice wa wl.length wc) wl _) ?_
    refine K_return hE Try.func12 rfl _ rfl ⟨N, ⟨by rw [hmap, List.take_length]; rfl, hvs⟩, rfl⟩ (Ent.fin [1, 2, 0] 0 rfl rfl)
end Go.Proofs.Ytngmcoopgbflaaa
