/- choke, part u: ChokeRounds. -/
import Derived.Test.YtpacpkpkinmjcaaCq
import Derived.Test.YtpacpkpkinmjcaaEngK
set_option linter.unusedVariables false
set_option linter.unusedSimpArgs false
namespace Go.Proofs.Ytpacpkpkinmjcaa
open Go Go.SL
/-- Rows of peers that came in. -/
def RRAt (X : HP) (v : Value) (l : List (List Rt)) : Prop := ∃ cs, Vw X v l.length cs ∧ cs.length = l.length ∧ (∃ a c, v = .slice a l.length c) ∧ ∀ (i : Nat) (x : List Rt), l[i]? = some x → ∃ cv, cs[i]? = some cv ∧ Vw X cv x.length (rV x) ∧ x.length ≤ 9223372036854775807
section
variable {P : Program} {f : FuncId} {n : Nat} {R : Ending → World → Prop} {G : Glob} {k : List Item} {L : Lst} {H : List HP} {S : World → Prop} {all : Array Oper} {rest : Pl}
theorem J_rw {b : Nat} {s e r t : Int} {v : Value} {may : List Int} (i : Nat) (hi : getL H i = some (rw14 b s e r t v may)) (h : Vw (rw14 b s e r t v may) v may.length (iV may) → J P f n R G S all rest k L H) : J P f n R G S all rest k L H :=
  J_sat fun w hw => by
    obtain ⟨h1, _, ha, hb, hP, hS, hd, he⟩ := hw.getA hi
    refine h ((Vw.of_slc 3 1 v may.length (iV may) ⟨hb, hS⟩).mono ?_)
    rintro h' ⟨ha', hb', hP', hS', hd', he'⟩
    exact star_right ⟨ha', hb', hP', hS', hd', he'⟩
end
/-- What stands behind a round. -/
def nxI (res : Res) (a b : Int) : Int := if res.2.2 = 0 then a else b
def nxL (res : Res) (a b : List Int) : List Int := if res.2.2 = 0 then a else b
theorem Round_uni (A : HP) (v : Value) (l : List Rt) (b : Nat) (s e r t seed : Int) (mo : Option Nat) (may : List Int) (hmo : mo = none → may = []) (hv : Vw A v l.length (rV l)) (hl : l.length ≤ 9223372036854775807) (hs : i64 s) (ht : i64 t) (he : 1 ≤ e) (hr : 0 ≤ r ∧ r ≤ 1000000000) (res : Res) (hres : res = chooseA l s t (decide (r % e = 0)) seed) :
    Ctr Try.prog 15 [ptr b, v, .int .u64 seed] [wh b s e r t mo may, A]
      (fun u H => ∃ w mo', u = .tuple #[w, .int .i64 res.2.2] ∧ (mo' = none → nxL res res.1 may = []) ∧ H = [wh b s e (nxI res (r + 1) r) (nxI res res.2.1 t) mo' (nxL res res.1 may), slc 3 1 w res.1.length (iV res.1), A]) := by
  subst hres
  refine (Round_any A v l b s e r t seed mo may hv hl hs ht he hr).conv (Ent.refl _) ?_
  rintro u H (⟨h1, rfl, rfl⟩ | ⟨h1, w, bm, rfl, rfl⟩)
  · obtain ⟨-, h2⟩ := choose_err h1
    refine ⟨_, ⟨.slice none 0 0, mo, rfl, by unfold nxL; rw [if_neg h1]; exact hmo, rfl⟩, ?_⟩
    unfold nxI nxL
    rw [if_neg h1, if_neg h1, if_neg h1, h2]
    exact Ent.cons _ (slc_lift 3 1 none _)
  · refine ⟨_, ⟨w, some bm, by rw [h1], (fun h => by cases h), rfl⟩, ?_⟩
    unfold nxI nxL
    rw [if_pos h1, if_pos h1, if_pos h1]
    exact Ent.refl _
theorem refRound_uni (A : HP) (v : Value) (l : List Rt) (b : Nat) (s e r t seed : Int) (lv : Value) (may : List Int) (hv : Vw A v l.length (rV l)) (hl : l.length ≤ 9223372036854775807) (hs : i64 s) (ht : i64 t) (he : 1 ≤ e) (hr : 0 ≤ r ∧ r ≤ 1000000000) (res : Res) (hres : res = chooseA l s t (decide (r % e = 0)) seed) :
    Ctr Try.prog 16 [ptr b, v, .int .u64 seed] [rw14 b s e r t lv may, A]
      (fun u H => ∃ w lv', u = .tuple #[w, .int .i64 res.2.2] ∧ ((w = .slice none 0 0 ∧ res.1 = []) ∨ (w = lv' ∧ res.1 = nxL res res.1 may)) ∧ H = [rw14 b s e (nxI res (r + 1) r) (nxI res res.2.1 t) lv' (nxL res res.1 may), A]) := by
  subst hres
  refine (refRound_any A v l b s e r t seed lv may hv hl hs ht he hr).conv (Ent.refl _) ?_
  rintro u H (⟨h1, rfl, rfl⟩ | ⟨h1, w, rfl, rfl⟩)
  · obtain ⟨-, h2⟩ := choose_err h1
    refine ⟨_, ⟨.slice none 0 0, lv, rfl, .inl ⟨rfl, h2⟩, rfl⟩, ?_⟩
    unfold nxI nxL
    rw [if_neg h1, if_neg h1, if_neg h1]
    exact Ent.refl _
  · refine ⟨_, ⟨w, w, by rw [h1], .inr ⟨rfl, by unfold nxL; rw [if_pos h1]⟩, rfl⟩, ?_⟩
    unfold nxI nxL
    rw [if_pos h1, if_pos h1, if_pos h1]
    exact Ent.refl _
theorem nx_bounds {l : List Rt} {s t : Int} {turn : Bool} {seed : Int} {r i : Nat} {may : List Int} {res : Res} (hres : res = chooseA l s t turn seed) (hr : r ≤ i) (ht : i64 t) (hm : may.length ≤ 1000000) (hl : l.length ≤ 200) :
    ∃ r' : Nat, nxI res ((r : Int) + 1) (r : Int) = (r' : Int) ∧ r' ≤ i + 1 ∧ i64 (nxI res res.2.1 t) ∧ (nxL res res.1 may).length ≤ 1000000 ∧ res.1.length ≤ 1000000 := by
  have h1 := chooseA_len l s t turn seed
  rw [← hres] at h1
  unfold nxI nxL
  by_cases h : res.2.2 = 0
  · rw [if_pos h, if_pos h, if_pos h]
    exact ⟨r + 1, by omega, by omega, by rw [hres] at h ⊢; exact tried_i64 h, by omega, by omega⟩
  · rw [if_neg h, if_neg h, if_neg h]
    exact ⟨r, rfl, by omega, ht, hm, by omega⟩
theorem rw14_o (b : Nat) (s e r t : Int) (v : Value) (may : List Int) (H : List HP) : Ent (rw14 b s e r t v may :: H) (pts b (cl [.int .i64 s, .int .i64 e, .int .i64 r, v, .int .i64 t] 48) :: slc 3 1 v may.length (iV may) :: H) := Ent.part _ _ _
theorem rw14_c (b : Nat) (s e r t : Int) (v : Value) (may : List Int) (H : List HP) : Ent (pts b (cl [.int .i64 s, .int .i64 e, .int .i64 r, v, .int .i64 t] 48) :: slc 3 1 v may.length (iV may) :: H) (rw14 b s e r t v may :: H) := Ent.join _ _ _
structure RS where
  r : Nat
  t : Int
  mo : Option Nat
  lv : Value
  may : List Int
attribute [local irreducible] J K Ctr Ends pts slc mapR mapI sbRow stock arrS loopP CtrY belowN mixV nextS chooseA rank wh rw14 TI newE rightA

set_option maxRecDepth 20000 in
theorem ChokeRounds_any (X : HP) (v : Value) (l : List (List Rt)) (s e : Int) (hv : RRAt X v l) (hl : l.length ≤ 9223372036854775807) (hs : i64 s) (he : i64 e) :
    Ctr Try.prog 6 [.int .i64 s, .int .i64 e, v] [X] (fun r H => r = .bool true ∧ H = [X]) := by
  obtain ⟨cs, hvw, hcl, ⟨a, c0, rfl⟩, hel⟩ := hv
  refine Ctr.enter Try.func6 (by kernel_rfl) rfl Try.ntmps6 rfl rfl ?_
  intro G F R hE
  (refine go ?_)
  (first | refine J_callE rfl rfl rfl rfl (awake_any) entA ?_ (fun _ _ _ _ _ => trivial) | refine J_call0E rfl rfl rfl (awake_any) entA ?_ (fun _ _ _ _ _ => trivial) | (refine go ?_; first | refine J_callE rfl rfl rfl rfl (awake_any) entA ?_ (fun _ _ _ _ _ => trivial) | refine J_call0E rfl rfl rfl (awake_any) entA ?_ (fun _ _ _ _ _ => trivial)))
  rintro _ _ ⟨rfl, rfl⟩
  (refine go ?_)
  (first | refine J_callE rfl rfl rfl rfl (New_any s e) entA ?_ (fun _ _ _ _ _ => trivial) | refine J_call0E rfl rfl rfl (New_any s e) entA ?_ (fun _ _ _ _ _ => trivial) | (refine go ?_; first | refine J_callE rfl rfl rfl rfl (New_any s e) entA ?_ (fun _ _ _ _ _ => trivial) | refine J_call0E rfl rfl rfl (New_any s e) entA ?_ (fun _ _ _ _ _ => trivial)))
  rintro _ _ (⟨hn, rfl, rfl⟩ | ⟨hn, b, rfl, rfl⟩)
  · (refine go ?_)
    (first | refine J_callE rfl rfl rfl rfl (refNew_any s e) entA ?_ (fun _ _ _ _ _ => trivial) | refine J_call0E rfl rfl rfl (refNew_any s e) entA ?_ (fun _ _ _ _ _ => trivial) | (refine go ?_; first | refine J_callE rfl rfl rfl rfl (refNew_any s e) entA ?_ (fun _ _ _ _ _ => trivial) | refine J_call0E rfl rfl rfl (refNew_any s e) entA ?_ (fun _ _ _ _ _ => trivial)))
    rintro _ _ (⟨hn2, rfl, rfl⟩ | ⟨hn2, b2, rfl, rfl⟩)
    rotate_left
    · omega
    (refine go ?_)
    refine K_loop (fun _ : Unit => True) (fun _ => 0) (fun _ => [(2, .slice a l.length c0), (8, .pointer none), (12, .int .i64 0)]) (fun _ => X :: F) () trivial rfl (by repeat (first | exact keep_nil | refine keep_cons rfl ?_)) entA ?_
    rintro _ _ ih
    repeat' (first | (with_reducible intro _hh) | refine go1 ?_ | refine J_fork ?_ ?_ | refine J_gsP rfl rfl rfl rfl ?_ ?_ | refine K_condP rfl rfl ?_ ?_)
    all_goals first
      | (first | refine K_return hE Try.func6 rfl _ rfl ⟨rfl, rfl⟩ entA | refine K_fallEnd hE Try.func6 rfl _ rfl ⟨rfl, rfl⟩ entA)
      | trace_state
  have hse : 1 ≤ s ∧ s ≤ 16 ∧ 1 ≤ e ∧ e ≤ 1000 := by
    unfold newE at hn
    split at hn
    · cases hn
    · omega
  (refine go ?_)
  (first | refine J_callE rfl rfl rfl rfl (refNew_any s e) entA ?_ (fun _ _ _ _ _ => trivial) | refine J_call0E rfl rfl rfl (refNew_any s e) entA ?_ (fun _ _ _ _ _ => trivial) | (refine go ?_; first | refine J_callE rfl rfl rfl rfl (refNew_any s e) entA ?_ (fun _ _ _ _ _ => trivial) | refine J_call0E rfl rfl rfl (refNew_any s e) entA ?_ (fun _ _ _ _ _ => trivial)))
  rintro _ _ (⟨hn2, rfl, rfl⟩ | ⟨hn2, b2, rfl, rfl⟩)
  · omega
  (refine go ?_)
  refine K_loop (fun y : Nat × RS => (y.1 ≤ l.length ∧ y.1 ≤ 60) ∧ (y.2.r ≤ y.1 ∧ i64 y.2.t ∧ (y.2.mo = none → y.2.may = []) ∧ y.2.may.length ≤ 1000000)) (fun y => l.length - y.1) (fun y => [(2, .slice a l.length c0), (8, ptr b), (10, ptr b2), (12, .int .i64 (y.1 : Int))]) (fun y => wh b s e (y.2.r : Int) y.2.t y.2.mo y.2.may :: rw14 b2 s e (y.2.r : Int) y.2.t y.2.lv y.2.may :: X :: F) (0, ⟨0, 0, none, .slice none 0 0, []⟩) ⟨⟨Nat.zero_le _, by simp⟩, ⟨Nat.zero_le _, by decide, fun _ => rfl, by simp⟩⟩ rfl (by repeat (first | exact keep_nil | refine keep_cons rfl ?_)) entA ?_
  rintro ⟨i, r, t, mo, lv, may⟩ ⟨⟨hi, hi60⟩, hr, ht, hmo, hml⟩ ih
  simp only at hi hi60 hr ht hmo hml
  simp only
  (refine go ?_)
  refine J_gsP rfl rfl rfl rfl ?_ ?_
  rotate_left
  · intro hge
    (refine go ?_)
    (first | refine K_return hE Try.func6 rfl _ rfl ⟨rfl, rfl⟩ entA | refine K_fallEnd hE Try.func6 rfl _ rfl ⟨rfl, rfl⟩ entA)
  intro hlt
  (refine go ?_)
  refine J_gsP rfl rfl rfl rfl ?_ ?_
  rotate_left
  · intro hge
    (refine go ?_)
    (first | refine K_return hE Try.func6 rfl _ rfl ⟨rfl, rfl⟩ entA | refine K_fallEnd hE Try.func6 rfl _ rfl ⟨rfl, rfl⟩ entA)
  intro hlt60
  have hil : i < l.length := by omega
  obtain ⟨x, hx⟩ : ∃ x, l[i]? = some x := ⟨l[i], by simp [hil]⟩
  obtain ⟨cv, hcv, hvx, hxl⟩ := hel i x hx
  obtain ⟨ob, oo, oc, hos⟩ := hvw.some (by intro h; rw [h] at hcv; simp at hcv)
  simp only [Value.slice.injEq, true_and] at hos
  obtain ⟨rfl, rfl⟩ := hos
  obtain ⟨ax, kx, rfl⟩ := hvx.shape
  (refine go ?_)
  refine J_at1 (U := tab) i rfl rfl rfl rfl rfl rfl rfl rfl hil ?_
  refine J_loadAt (U := tab) 2 i rfl rfl rfl hvw rfl hcv rfl rfl ?_
  (refine go ?_)
  refine K_condP rfl rfl ?_ ?_
  · intro h200
    (refine go ?_)
    (first | refine K_return hE Try.func6 rfl _ rfl ⟨rfl, rfl⟩ entA | refine K_fallEnd hE Try.func6 rfl _ rfl ⟨rfl, rfl⟩ entA)
  intro h200
  (refine go ?_)
  refine J_at1 (U := tab) i rfl rfl rfl rfl rfl rfl rfl rfl hil ?_
  refine J_loadAt (U := tab) 2 i rfl rfl rfl hvw rfl hcv rfl rfl ?_
  (refine go ?_)
  obtain ⟨res, hres⟩ : ∃ res, res = chooseA x s t (decide ((r : Int) % e = 0)) (i : Int) := ⟨_, rfl⟩
  obtain ⟨r', hr1, hr2, ht', hml', hrl⟩ := nx_bounds hres hr ht hml (by omega)
  have c1 := Round_uni X (.slice ax x.length kx) x b s e (r : Int) t (i : Int) mo may hmo hvx hxl hs ht (by omega) (by omega) res hres
  have c2 := refRound_uni X (.slice ax x.length kx) x b2 s e (r : Int) t (i : Int) lv may hvx hxl hs ht (by omega) (by omega) res hres
  rw [hr1] at c1 c2
  clear hres hr1
  generalize nxI res res.2.1 t = t' at c1 c2 ht'
  generalize nxL res res.1 may = may' at c1 c2 hml'
  obtain ⟨rl, rt, re⟩ := res
  simp only at c1 c2 hrl
  (first | refine J_callE rfl rfl rfl rfl (c1) entA ?_ (fun _ _ _ _ _ => trivial) | refine J_call0E rfl rfl rfl (c1) entA ?_ (fun _ _ _ _ _ => trivial) | (refine go ?_; first | refine J_callE rfl rfl rfl rfl (c1) entA ?_ (fun _ _ _ _ _ => trivial) | refine J_call0E rfl rfl rfl (c1) entA ?_ (fun _ _ _ _ _ => trivial)))
  rintro _ _ ⟨w1, mo', rfl, hmo', rfl⟩
  (refine go ?_)
  refine J_at1 (U := tab) i rfl rfl rfl rfl rfl rfl rfl rfl hil ?_
  refine J_isLoad ?_
  refine J_loadAt (U := tab) 2 i rfl rfl rfl hvw rfl hcv rfl rfl ?_
  (refine go ?_)
  (first | refine J_callE rfl rfl rfl rfl (c2) entA ?_ (fun _ _ _ _ _ => trivial) | refine J_call0E rfl rfl rfl (c2) entA ?_ (fun _ _ _ _ _ => trivial) | (refine go ?_; first | refine J_callE rfl rfl rfl rfl (c2) entA ?_ (fun _ _ _ _ _ => trivial) | refine J_call0E rfl rfl rfl (c2) entA ?_ (fun _ _ _ _ _ => trivial)))
  rintro _ _ ⟨w2, lv', rfl, hw2, rfl⟩
  refine J_rw 0 rfl ?_
  intro hvr
  refine J_slcVw 3 rfl ?_
  intro hv1
  have hv2 : Vw (rw14 b2 s e (r' : Int) t' lv' may') w2 rl.length (iV rl) := by
    rcases hw2 with ⟨rfl, h2⟩ | ⟨rfl, h2⟩
    · rw [h2]; exact ⟨none, 0, rfl, .inl rfl⟩
    · rw [h2]; exact hvr
  (refine go ?_)
  (first | refine J_callE rfl rfl rfl rfl (SameI_any _ _ w1 w2 rl rl hv1 hv2 (by omega)) entA ?_ (fun _ _ _ _ _ => trivial) | refine J_call0E rfl rfl rfl (SameI_any _ _ w1 w2 rl rl hv1 hv2 (by omega)) entA ?_ (fun _ _ _ _ _ => trivial) | (refine go ?_; first | refine J_callE rfl rfl rfl rfl (SameI_any _ _ w1 w2 rl rl hv1 hv2 (by omega)) entA ?_ (fun _ _ _ _ _ => trivial) | refine J_call0E rfl rfl rfl (SameI_any _ _ w1 w2 rl rl hv1 hv2 (by omega)) entA ?_ (fun _ _ _ _ _ => trivial)))
  rintro _ _ ⟨rfl, rfl⟩
  rw [decide_eq_true (rfl : rl = rl)]
  (refine go ?_)
  refine K_ent (Ent.pick [1] rfl) ?_
  refine K_ent (rw14_o b2 s e (r' : Int) t' lv' may' _) ?_
  refine K_drawA (fun w => Sat G w ([wh b s e (r' : Int) t' mo' may', pts b2 (cl [.int .i64 s, .int .i64 e, .int .i64 (r' : Int), lv', .int .i64 t'] 48)])) (.st 0 (.st 1 (.st 2 (.st 3 (.st 4 (.st 5 (.st 6 (.st 7 (.st 8 (.st 10 (.st 11 (.st 12 (.st 13 (.act 9 (.st 14 (.st 15 .nil)))))))))))))))) rfl (by kernel_rfl) (by kernel_rfl) (by kernel_rfl) (fun w hw => hw.ent entA) ?_
  (refine go ?_)
  (first | refine J_slot 98 ((.bool false)) rfl ((by simp)) ?_ | refine K_slot 98 ((.bool false)) rfl ((by simp)) ?_)
  (refine go ?_)
  (first | refine J_callE rfl rfl rfl rfl (Tried_any b s e (r' : Int) t' mo' may') entA ?_ (fun _ _ w hp hw => by obtain ⟨rfl, rfl⟩ := hp; exact hw.ent entA) | refine J_call0E rfl rfl rfl (Tried_any b s e (r' : Int) t' mo' may') entA ?_ (fun _ _ w hp hw => by obtain ⟨rfl, rfl⟩ := hp; exact hw.ent entA))
  rintro _ _ ⟨rfl, rfl⟩
  (refine go ?_)
  (first | refine J_slot 106 ((.bool false)) rfl ((by simp)) ?_ | refine K_slot 106 ((.bool false)) rfl ((by simp)) ?_)
  refine K_ent (Ent.pick [1, 2] rfl) ?_
  refine K_ent (rw14_c b2 s e (r' : Int) t' lv' may' _) ?_
  (refine go ?_)
  have ihO := ih
  clear ih
  refine K_loop (fun k : Nat => k ≤ x.length) (fun k => x.length - k) (fun k => [(2, .slice (some ⟨ob, oo, none⟩) l.length c0), (8, ptr b), (10, ptr b2), (12, .int .i64 (i : Int)), (18, .int .i64 (k : Int))]) (fun k => wh b s e (r' : Int) t' mo' may' :: rw14 b2 s e (r' : Int) t' lv' may' :: X :: F) 0 (Nat.zero_le _) rfl (by repeat (first | exact keep_nil | refine keep_cons rfl ?_)) entA ?_
  rintro k hk ih
  (refine go ?_)
  refine J_at1 (U := tab) i rfl rfl rfl rfl rfl rfl rfl rfl hil ?_
  refine J_isLoad ?_
  refine J_loadAt (U := tab) 2 i rfl rfl rfl hvw rfl hcv rfl rfl ?_
  (refine go ?_)
  refine K_condP rfl rfl ?_ ?_
  case' refine_2 =>
    intro hge
    clear ih
    have ih := ihO
    (refine go ?_)
    refine K_again ih (i + 1, ⟨r', t', mo', lv', may'⟩) rfl (⟨⟨by simp only; omega, by simp only; omega⟩, ⟨by simp only; omega, ht', hmo', hml'⟩⟩) (by simp only; omega) (by repeat (first | exact keep_nil | refine keep_cons rfl ?_)) entA
  intro hltk
  have hk' : k < x.length := by omega
  obtain ⟨z, hz⟩ : ∃ z, x[k]? = some z := ⟨x[k], by simp [hk']⟩
  obtain ⟨xb, xo, xc, hxs⟩ := hvx.some (rne hk')
  simp only [Value.slice.injEq, true_and] at hxs
  obtain ⟨rfl, rfl⟩ := hxs
  (refine go ?_)
  refine K_drawA (fun w => Sat G w ([X])) (.st 0 (.st 1 (.st 2 (.st 3 (.st 4 (.st 5 (.st 6 (.st 7 (.st 8 (.st 10 (.st 11 (.st 12 (.st 13 (.st 14 (.st 15 (.st 16 (.st 17 (.st 18 (.act 9 (.act 19 (.st 20 .nil))))))))))))))))))))) rfl (by kernel_rfl) (by kernel_rfl) (by kernel_rfl) (fun w hw => hw.ent entA) ?_
  (refine go ?_)
  refine J_at1 (U := tab) i rfl rfl rfl rfl rfl rfl rfl rfl hil ?_
  refine J_isLoad ?_
  refine J_loadAtS (U := tab) 0 i rfl rfl rfl hvw rfl hcv rfl rfl ?_
  (refine go ?_)
  refine J_at (U := tab) k 3 rfl rfl rfl rfl rfl rfl rfl rfl hk' ?_
  (refine go ?_)
  refine J_isLoad ?_
  refine J_loadAtS (U := tab) 0 (k * 3 + 0) rfl rfl rfl hvx (Nat.add_assoc _ _ _) (rtI hz) rfl rfl ?_
  (refine go ?_)
  refine J_at1 (U := tab) i rfl rfl rfl rfl rfl rfl rfl rfl hil ?_
  refine J_isLoad ?_
  refine J_loadAtS (U := tab) 0 i rfl rfl rfl hvw rfl hcv rfl rfl ?_
  (refine go ?_)
  refine J_at (U := tab) k 3 rfl rfl rfl rfl rfl rfl rfl rfl hk' ?_
  (refine go ?_)
  refine J_isLoad ?_
  refine J_loadAtS (U := tab) 0 (k * 3 + 0) rfl rfl rfl hvx (Nat.add_assoc _ _ _) (rtI hz) rfl rfl ?_
  (refine go ?_)
  (first | refine J_callE rfl rfl rfl rfl (May_any b s e (r' : Int) t' mo' may' z.id hmo') entA ?_ (fun _ _ w hp hw => by obtain ⟨rfl, rfl⟩ := hp; exact hw.ent entA) | refine J_call0E rfl rfl rfl (May_any b s e (r' : Int) t' mo' may' z.id hmo') entA ?_ (fun _ _ w hp hw => by obtain ⟨rfl, rfl⟩ := hp; exact hw.ent entA))
  rintro _ _ ⟨rfl, rfl⟩
  (refine go ?_)
  (first | refine J_callE rfl rfl rfl rfl (refMay_any b2 s e (r' : Int) t' lv' may' z.id (by omega)) entA ?_ (fun _ _ w hp hw => by obtain ⟨rfl, rfl⟩ := hp; exact hw.ent entA) | refine J_call0E rfl rfl rfl (refMay_any b2 s e (r' : Int) t' lv' may' z.id (by omega)) entA ?_ (fun _ _ w hp hw => by obtain ⟨rfl, rfl⟩ := hp; exact hw.ent entA))
  rintro _ _ ⟨rfl, rfl⟩
  generalize decide (z.id ∈ may') = bb
  cases bb with
  | true =>
    (refine go ?_)
    refine K_again ih (k + 1) rfl (by omega) (by omega) (by repeat (first | exact keep_nil | refine keep_cons rfl ?_)) entA
  | false =>
    (refine go ?_)
    refine K_again ih (k + 1) rfl (by omega) (by omega) (by repeat (first | exact keep_nil | refine keep_cons rfl ?_)) entA
end Go.Proofs.Ytpacpkpkinmjcaa
