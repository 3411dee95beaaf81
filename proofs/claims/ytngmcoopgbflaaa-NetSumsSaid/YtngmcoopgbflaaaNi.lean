/- net, part i: Double, Lose, Hold. -/
import Derived.Test.YtngmcoopgbflaaaNh
set_option linter.unusedVariables false
set_option linter.unusedSimpArgs false
namespace Go.Proofs.Ytngmcoopgbflaaa
open Go Go.SL
attribute [local irreducible] J K Ctr Ends pts slc mapR mapI sbRow stock arrS

def laterE (n : Nat) (i due : Int) : Int := if ¬ (0 ≤ i ∧ i < (n : Int)) then 4 else if ¬ okMoment due then 1 else 0
theorem later_any (bn : Nat) (nodes most sent lost : Int) (a0 : Option Addr) (nw cw : Nat) (i due : Int) : Ctr Try.prog 24 [ptr bn, .int .i64 i, .int .i64 due] [pts bn (cl [.int .i64 nodes, .int .i64 most, .slice a0 nw cw, .int .i64 sent, .int .i64 lost] 57)]
    (fun v H => v = .int .i64 (laterE nw i due) ∧ H = [pts bn (cl [.int .i64 nodes, .int .i64 most, .slice a0 nw cw, .int .i64 sent, .int .i64 lost] 57)]) := by
  refine Ctr.enter Try.func24 (by kernel_rfl) rfl Try.ntmps24 rfl rfl ?_
  intro G F R hE
  (refine go ?_)
  refine J_call [0] rfl rfl rfl rfl (at_any bn nodes most sent lost a0 nw cw i) rfl (fun _ _ _ _ _ => trivial) ?_
  rintro _ _ ⟨rfl, rfl⟩
  by_cases h1 : 0 ≤ i ∧ i < (nw : Int)
  case' neg =>
    refine J_slot 10 (.bool false) rfl (congrArg Value.bool (decide_eq_false h1)) ?_
    (refine go ?_)
    refine K_return hE Try.func24 rfl _ rfl ⟨by unfold laterE; rw [if_pos h1]; rfl, rfl⟩ (Ent.fin [0] 0 rfl rfl)
  refine J_slot 10 (.bool true) rfl (congrArg Value.bool (decide_eq_true h1)) ?_
  (refine go ?_)
  refine J_call [] rfl rfl rfl rfl (moment_any due) rfl (fun _ _ _ _ _ => trivial) ?_
  rintro _ _ ⟨rfl, rfl⟩
  by_cases h3 : okMoment due
  case' neg =>
    refine J_slot 14 (.bool false) rfl (congrArg Value.bool (decide_eq_false h3)) ?_
    (refine go ?_)
    refine K_return hE Try.func24 rfl _ rfl ⟨by unfold laterE; rw [if_neg (fun h => h h1), if_pos h3]; rfl, rfl⟩ (Ent.fin [0] 0 rfl rfl)
  refine J_slot 14 (.bool true) rfl (congrArg Value.bool (decide_eq_true h3)) ?_
  (refine go ?_)
  refine K_return hE Try.func24 rfl _ rfl ⟨by unfold laterE; rw [if_neg (fun h => h h1), if_neg (fun h => h h3)]; rfl, rfl⟩ (Ent.fin [0] 0 rfl rfl)
theorem laterE_0 {n : Nat} {i due : Int} (h : laterE n i due = 0) : (0 ≤ i ∧ i < (n : Int)) ∧ okMoment due := by
  unfold laterE at h
  split at h
  · omega
  · split at h
    · omega
    · rename_i h1 h2; exact ⟨Decidable.not_not.1 h1, Decidable.not_not.1 h2⟩
def NA.double (A : NA) (i due : Int) : Int × NA := if laterE A.way.length i due = 0 then (0, A.fresh { (A.way.getD i.toNat ⟨0, 0, 0, 0, []⟩) with due := due }) else (laterE A.way.length i due, A)
/-- The bytes of one of those that are on the way. -/
theorem flB_view {G : Glob} {w : World} {H : List HP} {wl : List Fl} {x : Fl} {j : Nat} (hw : Sat G w H) (hj : getL H j = some (stock flB wl)) (hx : x ∈ wl) : Vw (stock flB wl) x.v x.bs.length (bV x.bs) := by
  obtain ⟨h, _, hA⟩ := hw.getA hj
  obtain ⟨h', _, hA'⟩ := stock_mem hx hA
  have h1 : Vw (flB x) x.v x.bs.length (bV x.bs) := Vw.of_slc _ _ _ _ _ ⟨h', hA'⟩
  exact h1.mono fun h hs => stock_mem hx hs
set_option maxRecDepth 20000 in
theorem Double_any (bn k : Nat) (D : NetD) (hD : NOk D k) (hk : k + 1 ≤ 1000000) (i due : Int) :
    Ctr Try.prog 10 [ptr bn, .int .i64 i, .int .i64 due] [nt bn D]
      (fun v H => ∃ D', NOk D' (k + 1) ∧ D'.a = (D.a.double i due).2 ∧ v = .int .i64 (D.a.double i due).1 ∧ H = [nt bn D']) := by
  obtain ⟨nodes, most, sent, lost, way, wl⟩ := D
  refine Ctr.enter Try.func10 (by kernel_rfl) rfl Try.ntmps10 rfl rfl ?_
  intro G F R hE
  refine K_ent (nt_o _ _ _ _ _ _ _ _) ?_
  refine K_shape 1 rfl ?_
  rintro wa wc rfl
  (refine go ?_)
  refine J_call [0] rfl rfl rfl rfl (later_any bn nodes most sent lost wa wl.length wc i due) rfl (fun _ _ _ _ _ => trivial) ?_
  rintro _ _ ⟨rfl, rfl⟩
  (refine go ?_)
  have hal : (NetD.a ⟨nodes, most, sent, lost, .slice wa wl.length wc, wl⟩).way.length = wl.length := by simp [NetD.a]
  refine K_condP rfl rfl ?_ ?_
  · intro hne
    have hdb : (NetD.a ⟨nodes, most, sent, lost, .slice wa wl.length wc, wl⟩).double i due = (laterE wl.length i due, NetD.a ⟨nodes, most, sent, lost, .slice wa wl.length wc, wl⟩) := by unfold NA.double; rw [hal, if_neg hne]
    rw [hdb] at hE
    (refine go ?_)
    refine K_ent (nt_c bn nodes most sent lost _ wl _) ?_
    refine K_return hE Try.func10 rfl _ rfl ⟨_, hD.up (Nat.le_succ _) hk, rfl, rfl, rfl⟩ (Ent.fin [0] 0 rfl rfl)
  · intro he
    have he' : laterE wl.length i due = 0 := Decidable.not_not.1 he
    obtain ⟨⟨hi0, hil⟩, hmo⟩ := laterE_0 he'
    obtain ⟨q, rfl⟩ := Int.eq_ofNat_of_zero_le (a := i) hi0
    have hq : q < wl.length := by omega
    obtain ⟨x, hx⟩ : ∃ x, wl[q]? = some x := ⟨wl[q], by simp⟩
    have hxm := List.mem_of_getElem? hx
    have hdb : (NetD.a ⟨nodes, most, sent, lost, .slice wa wl.length wc, wl⟩).double q due = (0, (NetD.a ⟨nodes, most, sent, lost, .slice wa wl.length wc, wl⟩).fresh { x.a with due := due }) := by
      unfold NA.double; rw [hal, if_pos he']
      simp [NetD.a, List.getD_eq_getElem?_getD, hx]
    rw [hdb] at hE
    refine K_slcF 1 rfl (by omega) ?_
    rintro ba oa ca hsl _ _ hvw
    simp only [Value.slice.injEq, true_and] at hsl
    obtain ⟨rfl, rfl⟩ := hsl
    obtain ⟨va, vc, hxv⟩ := hD.vs x hxm
    (refine go ?_)
    refine J_at (U := tab) q 5 rfl rfl rfl rfl rfl rfl rfl rfl hq ?_
    refine J_loadElem (U := tab) (es := fcell x) 1 (q * 5) rfl rfl rfl hvw rfl (fcell_get hx) rfl rfl rfl ?_
    refine J_alloc (U := tab) rfl rfl rfl (fun _ _ _ => trivial) ?_
    intro bf
    refine J_sat fun w hw => ?_
    have hvx := flB_view (j := 3) hw rfl hxm
    clear hw w
    obtain ⟨f, hf⟩ : ∃ f : Fl, f = ⟨x.num, x.src, x.dst, due, x.v, x.bs⟩ := ⟨_, rfl⟩
    have hfc : fcell f = [.int .i64 x.num, .int .i64 x.src, .int .i64 x.dst, .int .i64 due, x.v] := by rw [hf]; rfl
    rw [hxv] at hfc
    have hfx : fcell x = [.int .i64 x.num, .int .i64 x.src, .int .i64 x.dst, .int .i64 x.due, .slice va x.bs.length vc] := by unfold fcell; rw [hxv]
    rw [hfx]
    (refine go ?_)
    refine J_loadElem (U := tab) (es := fcell f) (o := 0) (nn := 1) (cap := 1) (cs := fcell f) 0 0 rfl rfl rfl (Vw.pts (by rw [hfc]; rfl)) rfl fcell_get0 rfl rfl rfl ?_
    refine J_ent (Ent.pick [1, 2, 3] rfl) ?_
    refine J_ent (nt_c bn nodes most sent lost (.slice (some ⟨ba, oa, none⟩) wl.length wc) wl _) ?_
    have hfa : f.a = { x.a with due := due } := by rw [hf]; rfl
    refine J_call [0, 1] rfl rfl rfl rfl (fresh_any bn k _ hD hk (pts bf _) f (by rw [hf]; exact hvx.left) (by rw [hf]; exact hD.bytes x hxm)) rfl (fun _ _ _ _ _ => trivial) ?_
    rintro _ _ ⟨D', hD', ha, rfl⟩
    rw [hfa] at ha
    (refine go ?_)
    refine K_return hE Try.func10 rfl _ rfl ⟨_, hD', ha, rfl, rfl⟩ (Ent.fin [0] 1 rfl rfl)
end Go.Proofs.Ytngmcoopgbflaaa
