/- Texts of one claim, joined: Mx, EngW, Mx2. -/
import Derived.Test.YthcjmhlmoamjpaaQTG3
import Derived.Test.YthcjmhlmoamjpaaQTG5
import Derived.Test.YthcjmhlmoamjpaaQTG8
import Derived.Deep.Slices
import Derived.DataElems
import Derived.OpenShut
/- TopGossip, part x: the walk of the statement. -/
set_option linter.unusedVariables false
set_option linter.unusedSimpArgs false
namespace Go.Proofs.Ythcjmhlmoamjpaa
open Go Go.SL
def v0M : VM := ⟨⟨65534, 0, 1, 0⟩, 64, []⟩
def v1M : VM := ⟨⟨65535, 0, 1, 0⟩, 64, []⟩
def v2M : VM := ⟨⟨65536, 0, 1, 0⟩, 64, []⟩
def arrV (i p0 p1 p2 : Nat) : List Value := match i with
  | 0 => [.pointer none, .pointer none, .pointer none]
  | 1 => [ptr p0, .pointer none, .pointer none]
  | 2 => [ptr p0, ptr p1, .pointer none]
  | _ => [ptr p0, ptr p1, ptr p2]
def hpV (i p0 p1 p2 : Nat) : List HP := match i with
  | 0 => []
  | 1 => [viewH p0 v0M]
  | 2 => [viewH p0 v0M, viewH p1 v1M]
  | _ => [viewH p0 v0M, viewH p1 v1M, viewH p2 v2M]
theorem known_mono {l : List Mem} {s s' : TS} {n : Nat} (hal : ∀ x ∈ l, x.id < 65534 ∧ x.st ≠ 3) (h : known l s n) (h1 : ∀ id, id < 65534 → code s.a id ≤ code s'.a id) (h2 : ∀ id, id < 65534 → code s.b id ≤ code s'.b id) (h3 : ∀ id, id < 65534 → code s.c id ≤ code s'.c id) : known l s' n := by
  intro j x hj hx hr
  have h4 := h j x hj hx hr
  have h5 := (hal x (List.mem_of_getElem? hx)).1
  have := h1 x.id h5; have := h2 x.id h5; have := h3 x.id h5
  omega
/-- How the codes stand within a round. -/
def qst (i : Nat) (s : TS) : Prop := match i with
  | 0 => True
  | 1 => ∀ id, id < 65534 → code s.a id ≤ code s.b id ∧ code s.a id ≤ code s.c id
  | 2 => ∀ id, id < 65534 → code s.a id ≤ code s.c id ∧ code s.b id ≤ code s.c id
  | _ => ∀ id, id < 65534 → code s.a id = code s.b id ∧ code s.b id = code s.c id
/-- At the end all know the same. -/
theorem same_codes {l : List Mem} {s : TS} {n j : Nat} {x : Mem} (hg : TG (topU l) s) (hk : known l s n) (hq : qst 3 s) (hj : j < n) (hx : l[j]? = some x) (hr : rightM x = true) (hid : x.id < 65534) :
    ∃ a b c, findM s.a.ks x.id = some a ∧ findM s.b.ks x.id = some b ∧ findM s.c.ks x.id = some c ∧ a.inc = b.inc ∧ b.inc = c.inc ∧ a.st = b.st ∧ b.st = c.st := by
  have h1 := hk j x hj hx hr
  obtain ⟨h2, h3⟩ := hq x.id hid
  have pos : ∀ V : VM, 0 < code V x.id → ∃ y, findM V.ks x.id = some y ∧ code V x.id = cdM y := by
    intro V h
    unfold code at h ⊢
    cases hf : findM V.ks x.id with
    | none => rw [hf] at h; exact absurd h (by simp)
    | some y => exact ⟨y, rfl, rfl⟩
  obtain ⟨a, fa, ca⟩ := pos s.a (by omega)
  obtain ⟨b, fb, cb⟩ := pos s.b (by omega)
  obtain ⟨c, fc, cc⟩ := pos s.c (by omega)
  have oa := hg.a.ok a (findM_some fa).1
  have ob := hg.b.ok b (findM_some fb).1
  have oc := hg.c.ok c (findM_some fc).1
  have := oa.st1; have := oa.st2; have := ob.st1; have := ob.st2; have := oc.st1; have := oc.st2
  unfold cdM at ca cb cc
  exact ⟨a, b, c, fa, fb, fc, by omega, by omega, by omega, by omega⟩
theorem Of_some (bv : Nat) (V : VM) (id : Int) {y : Mem} (h : findM V.ks id = some y) : Ctr Try.prog 8 [ptr bv, .int .i64 id] [viewH bv V] (fun r H => r = .tuple #[mmV y, .bool true] ∧ H = [viewH bv V]) := by
  have := Of_any bv V id
  rw [h] at this
  exact this
attribute [local irreducible] J K Ctr Ends pts slc mapR mapI sbRow stock arrS loopP CtrY viewH

set_option maxRecDepth 20000 in
set_option maxHeartbeats 4000000 in
theorem TopGossip_any (X : HP) (lv pv : Value) (l : List Mem) (ps : List (Int × Int)) (hv : Vw X lv l.length (mV l)) (hp : Vw X pv ps.length (ps.flatMap pC)) (hll : l.length ≤ 9223372036854775807) (hpl : ps.length ≤ 9223372036854775807) :
    Ctr Try.prog 3 [lv, pv] [X] (fun r H => r = .bool true ∧ H = [X]) := by
  obtain ⟨la, lc, rfl⟩ := hv.shape
  obtain ⟨pa, pc, rfl⟩ := hp.shape
  refine Ctr.enter Try.func3 (by kernel_rfl) rfl Try.ntmps3 rfl rfl ?_
  intro G F R hE
  (refine go ?_)
  refine J_alloc (U := tab) rfl rfl rfl (fun _ _ _ => trivial) ?_
  intro b5
  (refine go ?_)
  refine K_loop (fun y : Nat × Nat × Nat × Nat => y.1 ≤ 3) (fun y => 3 - y.1)
    (fun y => [(0, .slice la l.length lc), (0 + 1, .slice pa ps.length pc), (5, ptr b5), (6, .int .i64 (y.1 : Int))])
    (fun y => pts b5 (cl (arrV y.1 y.2.1 y.2.2.1 y.2.2.2) 25) :: X :: (hpV y.1 y.2.1 y.2.2.1 y.2.2.2 ++ F)) (0, 0, 0, 0) (Nat.zero_le _) rfl (by repeat (first | exact keep_nil | refine keep_cons rfl ?_)) entA ?_
  rintro ⟨i, p0, p1, p2⟩ hi ih
  simp only at hi
  have hi : i = 0 ∨ i = 1 ∨ i = 2 ∨ i = 3 := by omega
  rcases hi with rfl | rfl | rfl | rfl
  · (refine go ?_)
    (first | refine J_slot 29 ((.int .i64 65534)) rfl (rfl) ?_ | refine K_slot 29 ((.int .i64 65534)) rfl (rfl) ?_)
    (first | refine J_callE rfl rfl rfl rfl (mNew_any 65534 64 (by decide) (by decide)) entA ?_ (fun _ _ _ _ _ => trivial) | refine J_call0E rfl rfl rfl (mNew_any 65534 64 (by decide) (by decide)) entA ?_ (fun _ _ _ _ _ => trivial) | (refine go ?_; first | refine J_callE rfl rfl rfl rfl (mNew_any 65534 64 (by decide) (by decide)) entA ?_ (fun _ _ _ _ _ => trivial) | refine J_call0E rfl rfl rfl (mNew_any 65534 64 (by decide) (by decide)) entA ?_ (fun _ _ _ _ _ => trivial)))
    rintro _ _ ⟨q, rfl, rfl⟩
    (repeat (first | refine go1 ?_ | refine J_fork ?_ ?_ | refine J_indexArr (U := tab) rfl rfl rfl rfl rfl rfl (by omega) (by omega) ?_))
    refine K_again ih (1, q, 0, 0) rfl (by simp only; omega) (by simp only; omega) (by repeat (first | exact keep_nil | refine keep_cons rfl ?_)) entA
  · (refine go ?_)
    (first | refine J_slot 29 ((.int .i64 65535)) rfl (rfl) ?_ | refine K_slot 29 ((.int .i64 65535)) rfl (rfl) ?_)
    (first | refine J_callE rfl rfl rfl rfl (mNew_any 65535 64 (by decide) (by decide)) entA ?_ (fun _ _ _ _ _ => trivial) | refine J_call0E rfl rfl rfl (mNew_any 65535 64 (by decide) (by decide)) entA ?_ (fun _ _ _ _ _ => trivial) | (refine go ?_; first | refine J_callE rfl rfl rfl rfl (mNew_any 65535 64 (by decide) (by decide)) entA ?_ (fun _ _ _ _ _ => trivial) | refine J_call0E rfl rfl rfl (mNew_any 65535 64 (by decide) (by decide)) entA ?_ (fun _ _ _ _ _ => trivial)))
    rintro _ _ ⟨q, rfl, rfl⟩
    (repeat (first | refine go1 ?_ | refine J_fork ?_ ?_ | refine J_indexArr (U := tab) rfl rfl rfl rfl rfl rfl (by omega) (by omega) ?_))
    refine K_again ih (2, p0, q, 0) rfl (by simp only; omega) (by simp only; omega) (by repeat (first | exact keep_nil | refine keep_cons rfl ?_)) entA
  · (refine go ?_)
    (first | refine J_slot 29 ((.int .i64 65536)) rfl (rfl) ?_ | refine K_slot 29 ((.int .i64 65536)) rfl (rfl) ?_)
    (first | refine J_callE rfl rfl rfl rfl (mNew_any 65536 64 (by decide) (by decide)) entA ?_ (fun _ _ _ _ _ => trivial) | refine J_call0E rfl rfl rfl (mNew_any 65536 64 (by decide) (by decide)) entA ?_ (fun _ _ _ _ _ => trivial) | (refine go ?_; first | refine J_callE rfl rfl rfl rfl (mNew_any 65536 64 (by decide) (by decide)) entA ?_ (fun _ _ _ _ _ => trivial) | refine J_call0E rfl rfl rfl (mNew_any 65536 64 (by decide) (by decide)) entA ?_ (fun _ _ _ _ _ => trivial)))
    rintro _ _ ⟨q, rfl, rfl⟩
    (repeat (first | refine go1 ?_ | refine J_fork ?_ ?_ | refine J_indexArr (U := tab) rfl rfl rfl rfl rfl rfl (by omega) (by omega) ?_))
    refine K_again ih (3, p0, p1, q) rfl (by simp only; omega) (by simp only; omega) (by repeat (first | exact keep_nil | refine keep_cons rfl ?_)) entA
  clear ih
  (refine go ?_)
  refine K_condP rfl rfl ?_ ?_
  · intro hbig
    (refine go ?_)
    (first | refine K_return hE Try.func3 rfl _ rfl ⟨rfl, rfl⟩ entA | refine K_fallEnd hE Try.func3 rfl _ rfl ⟨rfl, rfl⟩ entA)
  intro hsm
  have hl30 : l.length ≤ 30 := by omega
  have hul := topU_len l hl30
  (refine go ?_)
  refine K_loop (fun s : TS => s.i ≤ l.length ∧ TG (topU l) s ∧ known l s s.i ∧ ∀ (j : Nat) (x : Mem), j < s.i → l[j]? = some x → x.id < 65534 ∧ x.st ≠ 3) (fun s => l.length - s.i)
    (fun s => [(0, .slice la l.length lc), (0 + 1, .slice pa ps.length pc), (5, ptr b5), (9, .int .i64 (s.i : Int))])
    (fun s => pts b5 (cl [ptr p0, ptr p1, ptr p2] 25) :: X :: viewH p0 s.a :: viewH p1 s.b :: viewH p2 s.c :: F) ⟨0, v0M, v1M, v2M⟩
    ⟨Nat.zero_le _, ⟨new_gv l 65534 (by omega) (by omega), new_gv l 65535 (by omega) (by omega), new_gv l 65536 (by omega) (by omega)⟩, fun j x h => absurd h (Nat.not_lt_zero j), fun j x h => absurd h (Nat.not_lt_zero j)⟩ rfl (by repeat (first | exact keep_nil | refine keep_cons rfl ?_)) entA ?_
  rintro ⟨i, Wa, Wb, Wc⟩ ⟨hi, ⟨ga, gb, gc⟩, hkn, hal⟩ ih
  simp only at hi ga gb gc hkn hal
  (refine go ?_)
  refine K_condP rfl rfl ?_ ?_
  case' refine_2 =>
    intro hge
    simp only at hge
    have hfin : i = l.length := by omega
    subst hfin
    clear ih
    have hall : ∀ x ∈ l, x.id < 65534 ∧ x.st ≠ 3 := fun x hx => by
      obtain ⟨j, hj, rfl⟩ := List.getElem_of_mem hx
      exact hal j _ hj (List.getElem?_eq_getElem hj)
    clear hal
    (refine go ?_)
    refine K_loop (fun s : TS => s.i ≤ ps.length ∧ TG (topU l) s ∧ known l s l.length) (fun s => ps.length - s.i)
      (fun s => [(0, .slice la l.length lc), (0 + 1, .slice pa ps.length pc), (5, ptr b5), (10, .int .i64 (s.i : Int))])
      (fun s => pts b5 (cl [ptr p0, ptr p1, ptr p2] 25) :: X :: viewH p0 s.a :: viewH p1 s.b :: viewH p2 s.c :: F) ⟨0, Wa, Wb, Wc⟩ ⟨Nat.zero_le _, ⟨ga, gb, gc⟩, hkn⟩ rfl (by repeat (first | exact keep_nil | refine keep_cons rfl ?_)) entA ?_
    clear ga gb gc hkn Wa Wb Wc
    rintro ⟨i, Wa, Wb, Wc⟩ ⟨hi, ⟨ga, gb, gc⟩, hkn⟩ ih
    simp only at hi ga gb gc
    (refine go ?_)
    by_cases hcon : i < ps.length ∧ i < 30
    · (first | refine J_slot 78 ((.bool true)) rfl ((congrArg Value.bool (decide_eq_true (by simp only; omega)))) ?_ | refine K_slot 78 ((.bool true)) rfl ((congrArg Value.bool (decide_eq_true (by simp only; omega)))) ?_)
      (refine go ?_)
      (first | refine J_slot 81 ((.bool true)) rfl ((congrArg Value.bool (decide_eq_true (by simp only; omega)))) ?_ | refine K_slot 81 ((.bool true)) rfl ((congrArg Value.bool (decide_eq_true (by simp only; omega)))) ?_)
      have hi' := hcon.1
      obtain ⟨y, hy⟩ : ∃ y, ps[i]? = some y := ⟨ps[i], by simp⟩
      have m0 : (ps.flatMap pC)[i * 2 + 0]? = some (.int .i64 y.1) := (chunk_get pC_len hy 0 (by omega)).trans rfl
      have m1 : (ps.flatMap pC)[i * 2 + 1]? = some (.int .i64 y.2) := (chunk_get pC_len hy 1 (by omega)).trans rfl
      obtain ⟨pb, po, pcc, hps⟩ := hp.some (by rw [← List.length_pos_iff, chunk_len pC_len]; omega)
      simp only [Value.slice.injEq, true_and] at hps
      obtain ⟨rfl, rfl⟩ := hps
      (refine go ?_)
      refine J_at (U := tab) i 2 rfl rfl rfl rfl rfl rfl rfl rfl hi' ?_
      refine J_indexArr (U := tab) rfl rfl rfl rfl rfl rfl (by omega) (by omega) ?_
      (refine go ?_)
      refine J_isLoad ?_
      refine J_loadAt (U := tab) 1 (i * 2 + 0) rfl rfl rfl hp (Nat.add_assoc _ _ _) m0 rfl rfl ?_
      (refine go ?_)
      refine J_at (U := tab) i 2 rfl rfl rfl rfl rfl rfl rfl rfl hi' ?_
      refine J_indexArr (U := tab) rfl rfl rfl rfl rfl rfl (by omega) (by omega) ?_
      (refine go ?_)
      refine J_isLoad ?_
      refine J_loadAt (U := tab) 1 (i * 2 + 1) rfl rfl rfl hp (Nat.add_assoc _ _ _) m1 rfl rfl ?_
      (refine go ?_)
      rcases and1_cases y.1 with e0 | e0 <;> rcases and1_cases y.2 with e1 | e1
      · (first | refine J_slot 11 ((.int .i64 0)) rfl ((congrArg (Value.int .i64) e0)) ?_ | refine K_slot 11 ((.int .i64 0)) rfl ((congrArg (Value.int .i64) e0)) ?_)
        (first | refine J_slot 95 ((.int .i64 0)) rfl ((congrArg (Value.int .i64) e1)) ?_ | refine K_slot 95 ((.int .i64 0)) rfl ((congrArg (Value.int .i64) e1)) ?_)
        (refine go ?_)
        refine K_drawA (fun w => Sat G w ([pts b5 (cl [ptr p0, ptr p1, ptr p2] 25)])) (sts 0 6 (.act 6 .nil)) rfl (by kernel_rfl) (by kernel_rfl) (by kernel_rfl) (fun w hw => hw.ent entA) ?_
        (repeat (first | refine go1 ?_ | refine J_fork ?_ ?_ | refine J_indexArr (U := tab) rfl rfl rfl rfl rfl rfl (by omega) (by omega) ?_))
        obtain ⟨t1, t2⟩ := GV.tell ga gc (by omega)
        (first | refine J_callE rfl rfl rfl rfl (tell_any p0 p2 (topU l) Wa Wc ga gc (by omega)) entA ?_ (fun _ _ _ _ _ => trivial) | refine J_call0E rfl rfl rfl (tell_any p0 p2 (topU l) Wa Wc ga gc (by omega)) entA ?_ (fun _ _ _ _ _ => trivial) | (refine go ?_; first | refine J_callE rfl rfl rfl rfl (tell_any p0 p2 (topU l) Wa Wc ga gc (by omega)) entA ?_ (fun _ _ _ _ _ => trivial) | refine J_call0E rfl rfl rfl (tell_any p0 p2 (topU l) Wa Wc ga gc (by omega)) entA ?_ (fun _ _ _ _ _ => trivial)))
        rintro _ _ rfl
        (refine go ?_)
        refine K_again ih ⟨i + 1, Wa, Wb, (tellA Wa Wc)⟩ rfl ⟨by simp only; omega, ⟨ga, gb, t1⟩, known_mono hall hkn (fun _ _ => Int.le_refl _) (fun _ _ => Int.le_refl _) (fun id hid => by have := t2 id hid; simp only; omega)⟩ (by simp only; omega) (by repeat (first | exact keep_nil | refine keep_cons rfl ?_)) entA
      · (first | refine J_slot 11 ((.int .i64 0)) rfl ((congrArg (Value.int .i64) e0)) ?_ | refine K_slot 11 ((.int .i64 0)) rfl ((congrArg (Value.int .i64) e0)) ?_)
        (first | refine J_slot 95 ((.int .i64 1)) rfl ((congrArg (Value.int .i64) e1)) ?_ | refine K_slot 95 ((.int .i64 1)) rfl ((congrArg (Value.int .i64) e1)) ?_)
        (refine go ?_)
        refine K_drawA (fun w => Sat G w ([pts b5 (cl [ptr p0, ptr p1, ptr p2] 25)])) (sts 0 6 (.act 6 .nil)) rfl (by kernel_rfl) (by kernel_rfl) (by kernel_rfl) (fun w hw => hw.ent entA) ?_
        (repeat (first | refine go1 ?_ | refine J_fork ?_ ?_ | refine J_indexArr (U := tab) rfl rfl rfl rfl rfl rfl (by omega) (by omega) ?_))
        obtain ⟨t1, t2⟩ := GV.tell ga gb (by omega)
        (first | refine J_callE rfl rfl rfl rfl (tell_any p0 p1 (topU l) Wa Wb ga gb (by omega)) entA ?_ (fun _ _ _ _ _ => trivial) | refine J_call0E rfl rfl rfl (tell_any p0 p1 (topU l) Wa Wb ga gb (by omega)) entA ?_ (fun _ _ _ _ _ => trivial) | (refine go ?_; first | refine J_callE rfl rfl rfl rfl (tell_any p0 p1 (topU l) Wa Wb ga gb (by omega)) entA ?_ (fun _ _ _ _ _ => trivial) | refine J_call0E rfl rfl rfl (tell_any p0 p1 (topU l) Wa Wb ga gb (by omega)) entA ?_ (fun _ _ _ _ _ => trivial)))
        rintro _ _ rfl
        (refine go ?_)
        refine K_again ih ⟨i + 1, Wa, (tellA Wa Wb), Wc⟩ rfl ⟨by simp only; omega, ⟨ga, t1, gc⟩, known_mono hall hkn (fun _ _ => Int.le_refl _) (fun id hid => by have := t2 id hid; simp only; omega) (fun _ _ => Int.le_refl _)⟩ (by simp only; omega) (by repeat (first | exact keep_nil | refine keep_cons rfl ?_)) entA
      · (first | refine J_slot 11 ((.int .i64 1)) rfl ((congrArg (Value.int .i64) e0)) ?_ | refine K_slot 11 ((.int .i64 1)) rfl ((congrArg (Value.int .i64) e0)) ?_)
        (first | refine J_slot 95 ((.int .i64 0)) rfl ((congrArg (Value.int .i64) e1)) ?_ | refine K_slot 95 ((.int .i64 0)) rfl ((congrArg (Value.int .i64) e1)) ?_)
        (refine go ?_)
        refine K_drawA (fun w => Sat G w ([pts b5 (cl [ptr p0, ptr p1, ptr p2] 25)])) (sts 0 6 (.act 6 .nil)) rfl (by kernel_rfl) (by kernel_rfl) (by kernel_rfl) (fun w hw => hw.ent entA) ?_
        (repeat (first | refine go1 ?_ | refine J_fork ?_ ?_ | refine J_indexArr (U := tab) rfl rfl rfl rfl rfl rfl (by omega) (by omega) ?_))
        obtain ⟨t1, t2⟩ := GV.tell gb gc (by omega)
        (first | refine J_callE rfl rfl rfl rfl (tell_any p1 p2 (topU l) Wb Wc gb gc (by omega)) entA ?_ (fun _ _ _ _ _ => trivial) | refine J_call0E rfl rfl rfl (tell_any p1 p2 (topU l) Wb Wc gb gc (by omega)) entA ?_ (fun _ _ _ _ _ => trivial) | (refine go ?_; first | refine J_callE rfl rfl rfl rfl (tell_any p1 p2 (topU l) Wb Wc gb gc (by omega)) entA ?_ (fun _ _ _ _ _ => trivial) | refine J_call0E rfl rfl rfl (tell_any p1 p2 (topU l) Wb Wc gb gc (by omega)) entA ?_ (fun _ _ _ _ _ => trivial)))
        rintro _ _ rfl
        (refine go ?_)
        refine K_again ih ⟨i + 1, Wa, Wb, (tellA Wb Wc)⟩ rfl ⟨by simp only; omega, ⟨ga, gb, t1⟩, known_mono hall hkn (fun _ _ => Int.le_refl _) (fun _ _ => Int.le_refl _) (fun id hid => by have := t2 id hid; simp only; omega)⟩ (by simp only; omega) (by repeat (first | exact keep_nil | refine keep_cons rfl ?_)) entA
      · (first | refine J_slot 11 ((.int .i64 1)) rfl ((congrArg (Value.int .i64) e0)) ?_ | refine K_slot 11 ((.int .i64 1)) rfl ((congrArg (Value.int .i64) e0)) ?_)
        (first | refine J_slot 95 ((.int .i64 1)) rfl ((congrArg (Value.int .i64) e1)) ?_ | refine K_slot 95 ((.int .i64 1)) rfl ((congrArg (Value.int .i64) e1)) ?_)
        (refine go ?_)
        refine K_again ih ⟨i + 1, Wa, Wb, Wc⟩ rfl ⟨by simp only; omega, ⟨ga, gb, gc⟩, hkn⟩ (by simp only; omega) (by repeat (first | exact keep_nil | refine keep_cons rfl ?_)) entA
    have hc2 : ¬ i < ps.length ∨ (i < ps.length ∧ ¬ i < 30) := by omega
    rcases hc2 with h | ⟨h, h'⟩
    case' inl =>
      (first | refine J_slot 78 ((.bool false)) rfl ((congrArg Value.bool (decide_eq_false (by simp only; omega)))) ?_ | refine K_slot 78 ((.bool false)) rfl ((congrArg Value.bool (decide_eq_false (by simp only; omega)))) ?_)
      (refine go ?_)
    case' inr =>
      (first | refine J_slot 78 ((.bool true)) rfl ((congrArg Value.bool (decide_eq_true (by simp only; omega)))) ?_ | refine K_slot 78 ((.bool true)) rfl ((congrArg Value.bool (decide_eq_true (by simp only; omega)))) ?_)
      (refine go ?_)
      (first | refine J_slot 81 ((.bool false)) rfl ((congrArg Value.bool (decide_eq_false (by simp only; omega)))) ?_ | refine K_slot 81 ((.bool false)) rfl ((congrArg Value.bool (decide_eq_false (by simp only; omega)))) ?_)
      (refine go ?_)
    all_goals (
      clear ih
      refine K_loop (fun s : Nat × TS => s.1 ≤ 2 ∧ TG (topU l) s.2 ∧ known l s.2 l.length ∧ (1 ≤ s.1 → qst 3 s.2)) (fun s => 2 - s.1)
        (fun s => [(0, .slice la l.length lc), (5, ptr b5), (13, .int .i64 (s.1 : Int))])
        (fun s => pts b5 (cl [ptr p0, ptr p1, ptr p2] 25) :: X :: viewH p0 s.2.a :: viewH p1 s.2.b :: viewH p2 s.2.c :: F) (0, ⟨0, Wa, Wb, Wc⟩) ⟨Nat.zero_le _, ⟨ga, gb, gc⟩, hkn, fun h => absurd h (by simp)⟩ rfl (by repeat (first | exact keep_nil | refine keep_cons rfl ?_)) entA ?_
      clear ga gb gc hkn Wa Wb Wc
      rintro ⟨r, i9, Wa, Wb, Wc⟩ ⟨hr, ⟨ga, gb, gc⟩, hkn, hqr⟩ ih0
      simp only at hr ga gb gc
      have hr : r = 0 ∨ r = 1 ∨ r = 2 := by omega
      rcases hr with rfl | rfl | rfl
      · (refine go ?_)
        refine K_loop (fun s : TS => s.i ≤ 3 ∧ TG (topU l) s ∧ known l s l.length ∧ qst s.i s) (fun s => 3 - s.i)
          (fun s => [(0, .slice la l.length lc), (5, ptr b5), (13, .int .i64 ((0 : Nat) : Int)), (14, .int .i64 (s.i : Int))])
          (fun s => pts b5 (cl [ptr p0, ptr p1, ptr p2] 25) :: X :: viewH p0 s.a :: viewH p1 s.b :: viewH p2 s.c :: F) ⟨0, Wa, Wb, Wc⟩ ⟨by simp, ⟨ga, gb, gc⟩, hkn, trivial⟩ rfl (by repeat (first | exact keep_nil | refine keep_cons rfl ?_)) entA ?_
        clear ga gb gc hkn hqr
        rintro ⟨i, Wa, Wb, Wc⟩ ⟨hi, ⟨ga, gb, gc⟩, hkn, hq⟩ ih
        simp only at hi ga gb gc
        have hi : i = 0 ∨ i = 1 ∨ i = 2 ∨ i = 3 := by omega
        rcases hi with rfl | rfl | rfl | rfl
        · (refine go ?_)
          refine K_drawA (fun w => Sat G w ([pts b5 (cl [ptr p0, ptr p1, ptr p2] 25)])) (sts 0 8 (.act 8 .nil)) rfl (by kernel_rfl) (by kernel_rfl) (by kernel_rfl) (fun w hw => hw.ent entA) ?_
          (repeat (first | refine go1 ?_ | refine J_fork ?_ ?_ | refine J_indexArr (U := tab) rfl rfl rfl rfl rfl rfl (by first | omega | (simp only; omega)) (by first | omega | (simp only; omega)) ?_))
          refine J_rem rfl rfl rfl (by first | omega | (simp only; omega)) (by first | omega | (simp only; omega)) ?_
          (first | refine J_slot 120 ((.int .i64 1)) rfl ((congrArg (Value.int .i64) (by simp only; omega))) ?_ | refine K_slot 120 ((.int .i64 1)) rfl ((congrArg (Value.int .i64) (by simp only; omega))) ?_)
          (repeat (first | refine go1 ?_ | refine J_fork ?_ ?_ | refine J_indexArr (U := tab) rfl rfl rfl rfl rfl rfl (by first | omega | (simp only; omega)) (by first | omega | (simp only; omega)) ?_))
          obtain ⟨t1, t2⟩ := GV.tell ga gb (by omega)
          (first | refine J_callE rfl rfl rfl rfl (tell_any p0 p1 (topU l) Wa Wb ga gb (by omega)) entA ?_ (fun _ _ _ _ _ => trivial) | refine J_call0E rfl rfl rfl (tell_any p0 p1 (topU l) Wa Wb ga gb (by omega)) entA ?_ (fun _ _ _ _ _ => trivial) | (refine go ?_; first | refine J_callE rfl rfl rfl rfl (tell_any p0 p1 (topU l) Wa Wb ga gb (by omega)) entA ?_ (fun _ _ _ _ _ => trivial) | refine J_call0E rfl rfl rfl (tell_any p0 p1 (topU l) Wa Wb ga gb (by omega)) entA ?_ (fun _ _ _ _ _ => trivial)))
          rintro _ _ rfl
          (refine go ?_)
          refine K_drawA (fun w => Sat G w ([pts b5 (cl [ptr p0, ptr p1, ptr p2] 25)])) (sts 0 8 (.act 8 .nil)) rfl (by kernel_rfl) (by kernel_rfl) (by kernel_rfl) (fun w hw => hw.ent entA) ?_
          (repeat (first | refine go1 ?_ | refine J_fork ?_ ?_ | refine J_indexArr (U := tab) rfl rfl rfl rfl rfl rfl (by first | omega | (simp only; omega)) (by first | omega | (simp only; omega)) ?_))
          refine J_rem rfl rfl rfl (by first | omega | (simp only; omega)) (by first | omega | (simp only; omega)) ?_
          (first | refine J_slot 129 ((.int .i64 2)) rfl ((congrArg (Value.int .i64) (by simp only; omega))) ?_ | refine K_slot 129 ((.int .i64 2)) rfl ((congrArg (Value.int .i64) (by simp only; omega))) ?_)
          (repeat (first | refine go1 ?_ | refine J_fork ?_ ?_ | refine J_indexArr (U := tab) rfl rfl rfl rfl rfl rfl (by first | omega | (simp only; omega)) (by first | omega | (simp only; omega)) ?_))
          obtain ⟨u1, u2⟩ := GV.tell ga gc (by omega)
          (first | refine J_callE rfl rfl rfl rfl (tell_any p0 p2 (topU l) Wa Wc ga gc (by omega)) entA ?_ (fun _ _ _ _ _ => trivial) | refine J_call0E rfl rfl rfl (tell_any p0 p2 (topU l) Wa Wc ga gc (by omega)) entA ?_ (fun _ _ _ _ _ => trivial) | (refine go ?_; first | refine J_callE rfl rfl rfl rfl (tell_any p0 p2 (topU l) Wa Wc ga gc (by omega)) entA ?_ (fun _ _ _ _ _ => trivial) | refine J_call0E rfl rfl rfl (tell_any p0 p2 (topU l) Wa Wc ga gc (by omega)) entA ?_ (fun _ _ _ _ _ => trivial)))
          rintro _ _ rfl
          (refine go ?_)
          refine K_again ih ⟨1, Wa, (tellA Wa Wb), (tellA Wa Wc)⟩ rfl ⟨by simp only; omega, ⟨ga, t1, u1⟩, known_mono hall hkn (fun _ _ => Int.le_refl _) (fun id hid => by have := t2 id hid; simp only; omega) (fun id hid => by have := u2 id hid; simp only; omega), (fun id hid => by have e1 := t2 id hid; have e2 := u2 id hid; simp only; omega)⟩ (by simp only; omega) (by repeat (first | exact keep_nil | refine keep_cons rfl ?_)) entA
        · (refine go ?_)
          refine K_drawA (fun w => Sat G w ([pts b5 (cl [ptr p0, ptr p1, ptr p2] 25)])) (sts 0 8 (.act 8 .nil)) rfl (by kernel_rfl) (by kernel_rfl) (by kernel_rfl) (fun w hw => hw.ent entA) ?_
          (repeat (first | refine go1 ?_ | refine J_fork ?_ ?_ | refine J_indexArr (U := tab) rfl rfl rfl rfl rfl rfl (by first | omega | (simp only; omega)) (by first | omega | (simp only; omega)) ?_))
          refine J_rem rfl rfl rfl (by first | omega | (simp only; omega)) (by first | omega | (simp only; omega)) ?_
          (first | refine J_slot 120 ((.int .i64 2)) rfl ((congrArg (Value.int .i64) (by simp only; omega))) ?_ | refine K_slot 120 ((.int .i64 2)) rfl ((congrArg (Value.int .i64) (by simp only; omega))) ?_)
          (repeat (first | refine go1 ?_ | refine J_fork ?_ ?_ | refine J_indexArr (U := tab) rfl rfl rfl rfl rfl rfl (by first | omega | (simp only; omega)) (by first | omega | (simp only; omega)) ?_))
          obtain ⟨t1, t2⟩ := GV.tell gb gc (by omega)
          (first | refine J_callE rfl rfl rfl rfl (tell_any p1 p2 (topU l) Wb Wc gb gc (by omega)) entA ?_ (fun _ _ _ _ _ => trivial) | refine J_call0E rfl rfl rfl (tell_any p1 p2 (topU l) Wb Wc gb gc (by omega)) entA ?_ (fun _ _ _ _ _ => trivial) | (refine go ?_; first | refine J_callE rfl rfl rfl rfl (tell_any p1 p2 (topU l) Wb Wc gb gc (by omega)) entA ?_ (fun _ _ _ _ _ => trivial) | refine J_call0E rfl rfl rfl (tell_any p1 p2 (topU l) Wb Wc gb gc (by omega)) entA ?_ (fun _ _ _ _ _ => trivial)))
          rintro _ _ rfl
          (refine go ?_)
          refine K_drawA (fun w => Sat G w ([pts b5 (cl [ptr p0, ptr p1, ptr p2] 25)])) (sts 0 8 (.act 8 .nil)) rfl (by kernel_rfl) (by kernel_rfl) (by kernel_rfl) (fun w hw => hw.ent entA) ?_
          (repeat (first | refine go1 ?_ | refine J_fork ?_ ?_ | refine J_indexArr (U := tab) rfl rfl rfl rfl rfl rfl (by first | omega | (simp only; omega)) (by first | omega | (simp only; omega)) ?_))
          refine J_rem rfl rfl rfl (by first | omega | (simp only; omega)) (by first | omega | (simp only; omega)) ?_
          (first | refine J_slot 129 ((.int .i64 0)) rfl ((congrArg (Value.int .i64) (by simp only; omega))) ?_ | refine K_slot 129 ((.int .i64 0)) rfl ((congrArg (Value.int .i64) (by simp only; omega))) ?_)
          (repeat (first | refine go1 ?_ | refine J_fork ?_ ?_ | refine J_indexArr (U := tab) rfl rfl rfl rfl rfl rfl (by first | omega | (simp only; omega)) (by first | omega | (simp only; omega)) ?_))
          obtain ⟨u1, u2⟩ := GV.tell gb ga (by omega)
          (first | refine J_callE rfl rfl rfl rfl (tell_any p1 p0 (topU l) Wb Wa gb ga (by omega)) entA ?_ (fun _ _ _ _ _ => trivial) | refine J_call0E rfl rfl rfl (tell_any p1 p0 (topU l) Wb Wa gb ga (by omega)) entA ?_ (fun _ _ _ _ _ => trivial) | (refine go ?_; first | refine J_callE rfl rfl rfl rfl (tell_any p1 p0 (topU l) Wb Wa gb ga (by omega)) entA ?_ (fun _ _ _ _ _ => trivial) | refine J_call0E rfl rfl rfl (tell_any p1 p0 (topU l) Wb Wa gb ga (by omega)) entA ?_ (fun _ _ _ _ _ => trivial)))
          rintro _ _ rfl
          (refine go ?_)
          refine K_again ih ⟨2, (tellA Wb Wa), Wb, (tellA Wb Wc)⟩ rfl ⟨by simp only; omega, ⟨u1, gb, t1⟩, known_mono hall hkn (fun id hid => by have := u2 id hid; simp only; omega) (fun _ _ => Int.le_refl _) (fun id hid => by have := t2 id hid; simp only; omega), (fun id hid => by have e1 := t2 id hid; have e2 := u2 id hid; have e3 := hq id hid; simp only at e3; simp only; omega)⟩ (by simp only; omega) (by repeat (first | exact keep_nil | refine keep_cons rfl ?_)) entA
        · (refine go ?_)
          refine K_drawA (fun w => Sat G w ([pts b5 (cl [ptr p0, ptr p1, ptr p2] 25)])) (sts 0 8 (.act 8 .nil)) rfl (by kernel_rfl) (by kernel_rfl) (by kernel_rfl) (fun w hw => hw.ent entA) ?_
          (repeat (first | refine go1 ?_ | refine J_fork ?_ ?_ | refine J_indexArr (U := tab) rfl rfl rfl rfl rfl rfl (by first | omega | (simp only; omega)) (by first | omega | (simp only; omega)) ?_))
          refine J_rem rfl rfl rfl (by first | omega | (simp only; omega)) (by first | omega | (simp only; omega)) ?_
          (first | refine J_slot 120 ((.int .i64 0)) rfl ((congrArg (Value.int .i64) (by simp only; omega))) ?_ | refine K_slot 120 ((.int .i64 0)) rfl ((congrArg (Value.int .i64) (by simp only; omega))) ?_)
          (repeat (first | refine go1 ?_ | refine J_fork ?_ ?_ | refine J_indexArr (U := tab) rfl rfl rfl rfl rfl rfl (by first | omega | (simp only; omega)) (by first | omega | (simp only; omega)) ?_))
          obtain ⟨t1, t2⟩ := GV.tell gc ga (by omega)
          (first | refine J_callE rfl rfl rfl rfl (tell_any p2 p0 (topU l) Wc Wa gc ga (by omega)) entA ?_ (fun _ _ _ _ _ => trivial) | refine J_call0E rfl rfl rfl (tell_any p2 p0 (topU l) Wc Wa gc ga (by omega)) entA ?_ (fun _ _ _ _ _ => trivial) | (refine go ?_; first | refine J_callE rfl rfl rfl rfl (tell_any p2 p0 (topU l) Wc Wa gc ga (by omega)) entA ?_ (fun _ _ _ _ _ => trivial) | refine J_call0E rfl rfl rfl (tell_any p2 p0 (topU l) Wc Wa gc ga (by omega)) entA ?_ (fun _ _ _ _ _ => trivial)))
          rintro _ _ rfl
          (refine go ?_)
          refine K_drawA (fun w => Sat G w ([pts b5 (cl [ptr p0, ptr p1, ptr p2] 25)])) (sts 0 8 (.act 8 .nil)) rfl (by kernel_rfl) (by kernel_rfl) (by kernel_rfl) (fun w hw => hw.ent entA) ?_
          (repeat (first | refine go1 ?_ | refine J_fork ?_ ?_ | refine J_indexArr (U := tab) rfl rfl rfl rfl rfl rfl (by first | omega | (simp only; omega)) (by first | omega | (simp only; omega)) ?_))
          refine J_rem rfl rfl rfl (by first | omega | (simp only; omega)) (by first | omega | (simp only; omega)) ?_
          (first | refine J_slot 129 ((.int .i64 1)) rfl ((congrArg (Value.int .i64) (by simp only; omega))) ?_ | refine K_slot 129 ((.int .i64 1)) rfl ((congrArg (Value.int .i64) (by simp only; omega))) ?_)
          (repeat (first | refine go1 ?_ | refine J_fork ?_ ?_ | refine J_indexArr (U := tab) rfl rfl rfl rfl rfl rfl (by first | omega | (simp only; omega)) (by first | omega | (simp only; omega)) ?_))
          obtain ⟨u1, u2⟩ := GV.tell gc gb (by omega)
          (first | refine J_callE rfl rfl rfl rfl (tell_any p2 p1 (topU l) Wc Wb gc gb (by omega)) entA ?_ (fun _ _ _ _ _ => trivial) | refine J_call0E rfl rfl rfl (tell_any p2 p1 (topU l) Wc Wb gc gb (by omega)) entA ?_ (fun _ _ _ _ _ => trivial) | (refine go ?_; first | refine J_callE rfl rfl rfl rfl (tell_any p2 p1 (topU l) Wc Wb gc gb (by omega)) entA ?_ (fun _ _ _ _ _ => trivial) | refine J_call0E rfl rfl rfl (tell_any p2 p1 (topU l) Wc Wb gc gb (by omega)) entA ?_ (fun _ _ _ _ _ => trivial)))
          rintro _ _ rfl
          (refine go ?_)
          refine K_again ih ⟨3, (tellA Wc Wa), (tellA Wc Wb), Wc⟩ rfl ⟨by simp only; omega, ⟨t1, u1, gc⟩, known_mono hall hkn (fun id hid => by have := t2 id hid; simp only; omega) (fun id hid => by have := u2 id hid; simp only; omega) (fun _ _ => Int.le_refl _), (fun id hid => by have e1 := t2 id hid; have e2 := u2 id hid; have e3 := hq id hid; simp only at e3; simp only; omega)⟩ (by simp only; omega) (by repeat (first | exact keep_nil | refine keep_cons rfl ?_)) entA
        · (refine go ?_)
          refine K_again ih0 (1, ⟨0, Wa, Wb, Wc⟩) rfl ⟨by simp only; omega, ⟨ga, gb, gc⟩, hkn, fun _ => hq⟩ (by simp only; omega) (by repeat (first | exact keep_nil | refine keep_cons rfl ?_)) entA
      · (refine go ?_)
        refine K_loop (fun s : TS => s.i ≤ 3 ∧ TG (topU l) s ∧ known l s l.length ∧ qst s.i s) (fun s => 3 - s.i)
          (fun s => [(0, .slice la l.length lc), (5, ptr b5), (13, .int .i64 ((1 : Nat) : Int)), (14, .int .i64 (s.i : Int))])
          (fun s => pts b5 (cl [ptr p0, ptr p1, ptr p2] 25) :: X :: viewH p0 s.a :: viewH p1 s.b :: viewH p2 s.c :: F) ⟨0, Wa, Wb, Wc⟩ ⟨by simp, ⟨ga, gb, gc⟩, hkn, trivial⟩ rfl (by repeat (first | exact keep_nil | refine keep_cons rfl ?_)) entA ?_
        clear ga gb gc hkn hqr
        rintro ⟨i, Wa, Wb, Wc⟩ ⟨hi, ⟨ga, gb, gc⟩, hkn, hq⟩ ih
        simp only at hi ga gb gc
        have hi : i = 0 ∨ i = 1 ∨ i = 2 ∨ i = 3 := by omega
        rcases hi with rfl | rfl | rfl | rfl
        · (refine go ?_)
          refine K_drawA (fun w => Sat G w ([pts b5 (cl [ptr p0, ptr p1, ptr p2] 25)])) (sts 0 8 (.act 8 .nil)) rfl (by kernel_rfl) (by kernel_rfl) (by kernel_rfl) (fun w hw => hw.ent entA) ?_
          (repeat (first | refine go1 ?_ | refine J_fork ?_ ?_ | refine J_indexArr (U := tab) rfl rfl rfl rfl rfl rfl (by first | omega | (simp only; omega)) (by first | omega | (simp only; omega)) ?_))
          refine J_rem rfl rfl rfl (by first | omega | (simp only; omega)) (by first | omega | (simp only; omega)) ?_
          (first | refine J_slot 120 ((.int .i64 1)) rfl ((congrArg (Value.int .i64) (by simp only; omega))) ?_ | refine K_slot 120 ((.int .i64 1)) rfl ((congrArg (Value.int .i64) (by simp only; omega))) ?_)
          (repeat (first | refine go1 ?_ | refine J_fork ?_ ?_ | refine J_indexArr (U := tab) rfl rfl rfl rfl rfl rfl (by first | omega | (simp only; omega)) (by first | omega | (simp only; omega)) ?_))
          obtain ⟨t1, t2⟩ := GV.tell ga gb (by omega)
          (first | refine J_callE rfl rfl rfl rfl (tell_any p0 p1 (topU l) Wa Wb ga gb (by omega)) entA ?_ (fun _ _ _ _ _ => trivial) | refine J_call0E rfl rfl rfl (tell_any p0 p1 (topU l) Wa Wb ga gb (by omega)) entA ?_ (fun _ _ _ _ _ => trivial) | (refine go ?_; first | refine J_callE rfl rfl rfl rfl (tell_any p0 p1 (topU l) Wa Wb ga gb (by omega)) entA ?_ (fun _ _ _ _ _ => trivial) | refine J_call0E rfl rfl rfl (tell_any p0 p1 (topU l) Wa Wb ga gb (by omega)) entA ?_ (fun _ _ _ _ _ => trivial)))
          rintro _ _ rfl
          (refine go ?_)
          refine K_drawA (fun w => Sat G w ([pts b5 (cl [ptr p0, ptr p1, ptr p2] 25)])) (sts 0 8 (.act 8 .nil)) rfl (by kernel_rfl) (by kernel_rfl) (by kernel_rfl) (fun w hw => hw.ent entA) ?_
          (repeat (first | refine go1 ?_ | refine J_fork ?_ ?_ | refine J_indexArr (U := tab) rfl rfl rfl rfl rfl rfl (by first | omega | (simp only; omega)) (by first | omega | (simp only; omega)) ?_))
          refine J_rem rfl rfl rfl (by first | omega | (simp only; omega)) (by first | omega | (simp only; omega)) ?_
          (first | refine J_slot 129 ((.int .i64 2)) rfl ((congrArg (Value.int .i64) (by simp only; omega))) ?_ | refine K_slot 129 ((.int .i64 2)) rfl ((congrArg (Value.int .i64) (by simp only; omega))) ?_)
          (repeat (first | refine go1 ?_ | refine J_fork ?_ ?_ | refine J_indexArr (U := tab) rfl rfl rfl rfl rfl rfl (by first | omega | (simp only; omega)) (by first | omega | (simp only; omega)) ?_))
          obtain ⟨u1, u2⟩ := GV.tell ga gc (by omega)
          (first | refine J_callE rfl rfl rfl rfl (tell_any p0 p2 (topU l) Wa Wc ga gc (by omega)) entA ?_ (fun _ _ _ _ _ => trivial) | refine J_call0E rfl rfl rfl (tell_any p0 p2 (topU l) Wa Wc ga gc (by omega)) entA ?_ (fun _ _ _ _ _ => trivial) | (refine go ?_; first | refine J_callE rfl rfl rfl rfl (tell_any p0 p2 (topU l) Wa Wc ga gc (by omega)) entA ?_ (fun _ _ _ _ _ => trivial) | refine J_call0E rfl rfl rfl (tell_any p0 p2 (topU l) Wa Wc ga gc (by omega)) entA ?_ (fun _ _ _ _ _ => trivial)))
          rintro _ _ rfl
          (refine go ?_)
          refine K_again ih ⟨1, Wa, (tellA Wa Wb), (tellA Wa Wc)⟩ rfl ⟨by simp only; omega, ⟨ga, t1, u1⟩, known_mono hall hkn (fun _ _ => Int.le_refl _) (fun id hid => by have := t2 id hid; simp only; omega) (fun id hid => by have := u2 id hid; simp only; omega), (fun id hid => by have e1 := t2 id hid; have e2 := u2 id hid; simp only; omega)⟩ (by simp only; omega) (by repeat (first | exact keep_nil | refine keep_cons rfl ?_)) entA
        · (refine go ?_)
          refine K_drawA (fun w => Sat G w ([pts b5 (cl [ptr p0, ptr p1, ptr p2] 25)])) (sts 0 8 (.act 8 .nil)) rfl (by kernel_rfl) (by kernel_rfl) (by kernel_rfl) (fun w hw => hw.ent entA) ?_
          (repeat (first | refine go1 ?_ | refine J_fork ?_ ?_ | refine J_indexArr (U := tab) rfl rfl rfl rfl rfl rfl (by first | omega | (simp only; omega)) (by first | omega | (simp only; omega)) ?_))
          refine J_rem rfl rfl rfl (by first | omega | (simp only; omega)) (by first | omega | (simp only; omega)) ?_
          (first | refine J_slot 120 ((.int .i64 2)) rfl ((congrArg (Value.int .i64) (by simp only; omega))) ?_ | refine K_slot 120 ((.int .i64 2)) rfl ((congrArg (Value.int .i64) (by simp only; omega))) ?_)
          (repeat (first | refine go1 ?_ | refine J_fork ?_ ?_ | refine J_indexArr (U := tab) rfl rfl rfl rfl rfl rfl (by first | omega | (simp only; omega)) (by first | omega | (simp only; omega)) ?_))
          obtain ⟨t1, t2⟩ := GV.tell gb gc (by omega)
          (first | refine J_callE rfl rfl rfl rfl (tell_any p1 p2 (topU l) Wb Wc gb gc (by omega)) entA ?_ (fun _ _ _ _ _ => trivial) | refine J_call0E rfl rfl rfl (tell_any p1 p2 (topU l) Wb Wc gb gc (by omega)) entA ?_ (fun _ _ _ _ _ => trivial) | (refine go ?_; first | refine J_callE rfl rfl rfl rfl (tell_any p1 p2 (topU l) Wb Wc gb gc (by omega)) entA ?_ (fun _ _ _ _ _ => trivial) | refine J_call0E rfl rfl rfl (tell_any p1 p2 (topU l) Wb Wc gb gc (by omega)) entA ?_ (fun _ _ _ _ _ => trivial)))
          rintro _ _ rfl
          (refine go ?_)
          refine K_drawA (fun w => Sat G w ([pts b5 (cl [ptr p0, ptr p1, ptr p2] 25)])) (sts 0 8 (.act 8 .nil)) rfl (by kernel_rfl) (by kernel_rfl) (by kernel_rfl) (fun w hw => hw.ent entA) ?_
          (repeat (first | refine go1 ?_ | refine J_fork ?_ ?_ | refine J_indexArr (U := tab) rfl rfl rfl rfl rfl rfl (by first | omega | (simp only; omega)) (by first | omega | (simp only; omega)) ?_))
          refine J_rem rfl rfl rfl (by first | omega | (simp only; omega)) (by first | omega | (simp only; omega)) ?_
          (first | refine J_slot 129 ((.int .i64 0)) rfl ((congrArg (Value.int .i64) (by simp only; omega))) ?_ | refine K_slot 129 ((.int .i64 0)) rfl ((congrArg (Value.int .i64) (by simp only; omega))) ?_)
          (repeat (first | refine go1 ?_ | refine J_fork ?_ ?_ | refine J_indexArr (U := tab) rfl rfl rfl rfl rfl rfl (by first | omega | (simp only; omega)) (by first | omega | (simp only; omega)) ?_))
          obtain ⟨u1, u2⟩ := GV.tell gb ga (by omega)
          (first | refine J_callE rfl rfl rfl rfl (tell_any p1 p0 (topU l) Wb Wa gb ga (by omega)) entA ?_ (fun _ _ _ _ _ => trivial) | refine J_call0E rfl rfl rfl (tell_any p1 p0 (topU l) Wb Wa gb ga (by omega)) entA ?_ (fun _ _ _ _ _ => trivial) | (refine go ?_; first | refine J_callE rfl rfl rfl rfl (tell_any p1 p0 (topU l) Wb Wa gb ga (by omega)) entA ?_ (fun _ _ _ _ _ => trivial) | refine J_call0E rfl rfl rfl (tell_any p1 p0 (topU l) Wb Wa gb ga (by omega)) entA ?_ (fun _ _ _ _ _ => trivial)))
          rintro _ _ rfl
          (refine go ?_)
          refine K_again ih ⟨2, (tellA Wb Wa), Wb, (tellA Wb Wc)⟩ rfl ⟨by simp only; omega, ⟨u1, gb, t1⟩, known_mono hall hkn (fun id hid => by have := u2 id hid; simp only; omega) (fun _ _ => Int.le_refl _) (fun id hid => by have := t2 id hid; simp only; omega), (fun id hid => by have e1 := t2 id hid; have e2 := u2 id hid; have e3 := hq id hid; simp only at e3; simp only; omega)⟩ (by simp only; omega) (by repeat (first | exact keep_nil | refine keep_cons rfl ?_)) entA
        · (refine go ?_)
          refine K_drawA (fun w => Sat G w ([pts b5 (cl [ptr p0, ptr p1, ptr p2] 25)])) (sts 0 8 (.act 8 .nil)) rfl (by kernel_rfl) (by kernel_rfl) (by kernel_rfl) (fun w hw => hw.ent entA) ?_
          (repeat (first | refine go1 ?_ | refine J_fork ?_ ?_ | refine J_indexArr (U := tab) rfl rfl rfl rfl rfl rfl (by first | omega | (simp only; omega)) (by first | omega | (simp only; omega)) ?_))
          refine J_rem rfl rfl rfl (by first | omega | (simp only; omega)) (by first | omega | (simp only; omega)) ?_
          (first | refine J_slot 120 ((.int .i64 0)) rfl ((congrArg (Value.int .i64) (by simp only; omega))) ?_ | refine K_slot 120 ((.int .i64 0)) rfl ((congrArg (Value.int .i64) (by simp only; omega))) ?_)
          (repeat (first | refine go1 ?_ | refine J_fork ?_ ?_ | refine J_indexArr (U := tab) rfl rfl rfl rfl rfl rfl (by first | omega | (simp only; omega)) (by first | omega | (simp only; omega)) ?_))
          obtain ⟨t1, t2⟩ := GV.tell gc ga (by omega)
          (first | refine J_callE rfl rfl rfl rfl (tell_any p2 p0 (topU l) Wc Wa gc ga (by omega)) entA ?_ (fun _ _ _ _ _ => trivial) | refine J_call0E rfl rfl rfl (tell_any p2 p0 (topU l) Wc Wa gc ga (by omega)) entA ?_ (fun _ _ _ _ _ => trivial) | (refine go ?_; first | refine J_callE rfl rfl rfl rfl (tell_any p2 p0 (topU l) Wc Wa gc ga (by omega)) entA ?_ (fun _ _ _ _ _ => trivial) | refine J_call0E rfl rfl rfl (tell_any p2 p0 (topU l) Wc Wa gc ga (by omega)) entA ?_ (fun _ _ _ _ _ => trivial)))
          rintro _ _ rfl
          (refine go ?_)
          refine K_drawA (fun w => Sat G w ([pts b5 (cl [ptr p0, ptr p1, ptr p2] 25)])) (sts 0 8 (.act 8 .nil)) rfl (by kernel_rfl) (by kernel_rfl) (by kernel_rfl) (fun w hw => hw.ent entA) ?_
          (repeat (first | refine go1 ?_ | refine J_fork ?_ ?_ | refine J_indexArr (U := tab) rfl rfl rfl rfl rfl rfl (by first | omega | (simp only; omega)) (by first | omega | (simp only; omega)) ?_))
          refine J_rem rfl rfl rfl (by first | omega | (simp only; omega)) (by first | omega | (simp only; omega)) ?_
          (first | refine J_slot 129 ((.int .i64 1)) rfl ((congrArg (Value.int .i64) (by simp only; omega))) ?_ | refine K_slot 129 ((.int .i64 1)) rfl ((congrArg (Value.int .i64) (by simp only; omega))) ?_)
          (repeat (first | refine go1 ?_ | refine J_fork ?_ ?_ | refine J_indexArr (U := tab) rfl rfl rfl rfl rfl rfl (by first | omega | (simp only; omega)) (by first | omega | (simp only; omega)) ?_))
          obtain ⟨u1, u2⟩ := GV.tell gc gb (by omega)
          (first | refine J_callE rfl rfl rfl rfl (tell_any p2 p1 (topU l) Wc Wb gc gb (by omega)) entA ?_ (fun _ _ _ _ _ => trivial) | refine J_call0E rfl rfl rfl (tell_any p2 p1 (topU l) Wc Wb gc gb (by omega)) entA ?_ (fun _ _ _ _ _ => trivial) | (refine go ?_; first | refine J_callE rfl rfl rfl rfl (tell_any p2 p1 (topU l) Wc Wb gc gb (by omega)) entA ?_ (fun _ _ _ _ _ => trivial) | refine J_call0E rfl rfl rfl (tell_any p2 p1 (topU l) Wc Wb gc gb (by omega)) entA ?_ (fun _ _ _ _ _ => trivial)))
          rintro _ _ rfl
          (refine go ?_)
          refine K_again ih ⟨3, (tellA Wc Wa), (tellA Wc Wb), Wc⟩ rfl ⟨by simp only; omega, ⟨t1, u1, gc⟩, known_mono hall hkn (fun id hid => by have := t2 id hid; simp only; omega) (fun id hid => by have := u2 id hid; simp only; omega) (fun _ _ => Int.le_refl _), (fun id hid => by have e1 := t2 id hid; have e2 := u2 id hid; have e3 := hq id hid; simp only at e3; simp only; omega)⟩ (by simp only; omega) (by repeat (first | exact keep_nil | refine keep_cons rfl ?_)) entA
        · (refine go ?_)
          refine K_again ih0 (2, ⟨0, Wa, Wb, Wc⟩) rfl ⟨by simp only; omega, ⟨ga, gb, gc⟩, hkn, fun _ => hq⟩ (by simp only; omega) (by repeat (first | exact keep_nil | refine keep_cons rfl ?_)) entA
      · have hq := hqr (by simp)
        clear ih0 hqr
        (refine go ?_)
        refine K_loop (fun j : Nat => j ≤ l.length) (fun j => l.length - j)
          (fun j => [(0, .slice la l.length lc), (5, ptr b5), (15, .int .i64 (j : Int))])
          (fun j => pts b5 (cl [ptr p0, ptr p1, ptr p2] 25) :: X :: viewH p0 Wa :: viewH p1 Wb :: viewH p2 Wc :: F) 0 (Nat.zero_le _) rfl (by repeat (first | exact keep_nil | refine keep_cons rfl ?_)) entA ?_
        intro j hj ih
        (refine go ?_)
        refine K_condP rfl rfl ?_ ?_
        case' refine_2 =>
          intro hge
          (refine go ?_)
          (first | refine K_return hE Try.func3 rfl _ rfl ⟨rfl, rfl⟩ entA | refine K_fallEnd hE Try.func3 rfl _ rfl ⟨rfl, rfl⟩ entA)
        intro hlt
        have hj' : j < l.length := by omega
        obtain ⟨x, hx⟩ : ∃ x, l[j]? = some x := ⟨l[j], by simp⟩
        have hxm := List.mem_of_getElem? hx
        have m0 : (mV l)[j * 4 + 0]? = some (.int .i64 x.id) := (chunk_get mmC_len hx 0 (by omega)).trans rfl
        obtain ⟨lb, lo, lcc, hls⟩ := hv.some (by rw [← List.length_pos_iff, mV_len]; omega)
        simp only [Value.slice.injEq, true_and] at hls
        obtain ⟨rfl, rfl⟩ := hls
        (repeat (first | refine go1 ?_ | refine J_fork ?_ ?_ | refine J_at (U := tab) j 4 rfl rfl rfl rfl rfl rfl rfl rfl hj' ?_))
        refine J_isLoad ?_
        refine J_loadElem (U := tab) (es := mmC x) 1 (j * 4) rfl rfl rfl hv rfl (fun q v hq' => ?_) rfl rfl rfl ?_
        · have hj3 : q < 4 := by
            rcases Nat.lt_or_ge q 4 with h | h
            · exact h
            · rw [List.getElem?_eq_none (by rw [mmC_len]; exact h)] at hq'; cases hq'
          rw [show mV l = l.flatMap mmC from rfl, chunk_get mmC_len hx q hj3]; exact hq'
        (refine go ?_)
        (first | refine J_callE rfl rfl rfl rfl (refRight_any x) entA ?_ (fun _ _ _ _ _ => trivial) | refine J_call0E rfl rfl rfl (refRight_any x) entA ?_ (fun _ _ _ _ _ => trivial) | (refine go ?_; first | refine J_callE rfl rfl rfl rfl (refRight_any x) entA ?_ (fun _ _ _ _ _ => trivial) | refine J_call0E rfl rfl rfl (refRight_any x) entA ?_ (fun _ _ _ _ _ => trivial)))
        rintro _ _ ⟨rfl, rfl⟩
        cases hright : rightM x with
        | false =>
          (refine go ?_)
          refine K_again ih (j + 1) rfl (by omega) (by omega) (by repeat (first | exact keep_nil | refine keep_cons rfl ?_)) entA
        | true =>
          obtain ⟨ya, yb, yc, fa, fb, fc, e1, e2, e3, e4⟩ := same_codes ⟨ga, gb, gc⟩ hkn hq hj' hx hright (hall x hxm).1
          simp only at fa fb fc
          (refine go ?_)
          refine K_drawA (fun w => Sat G w ([pts b5 (cl [ptr p0, ptr p1, ptr p2] 25), X])) (.st 0 (.st 1 (.st 2 (.st 3 (.st 4 (.st 5 (.st 6 (.fork (.act 7 (.st 8 (.st 9 (.st 10 (.act 11 (.act 12 (.st 13 .nil))))))) (.act 11 (.act 7 (.st 8 (.st 9 (.st 10 (.act 12 (.st 13 .nil))))))))))))))) rfl (by kernel_rfl) (by kernel_rfl) (by kernel_rfl) (fun w hw => hw.ent entA) ?_
          (repeat (first | refine go1 ?_ | refine J_fork ?_ ?_ | refine J_indexArr (U := tab) rfl rfl rfl rfl rfl rfl (by omega) (by omega) ?_ | refine J_at (U := tab) j 4 rfl rfl rfl rfl rfl rfl rfl rfl hj' ?_ | (refine J_isLoad ?_; refine J_loadAtS (U := tab) 1 (j * 4 + 0) rfl rfl rfl hv (Nat.add_assoc _ _ _) m0 rfl rfl ?_)))
          all_goals (first
            | ((first | refine J_callE rfl rfl rfl rfl (Of_some p0 Wa x.id fa) entA ?_ (fun _ _ w hp hw => by obtain ⟨rfl, rfl⟩ := hp; exact hw.ent entA) | refine J_call0E rfl rfl rfl (Of_some p0 Wa x.id fa) entA ?_ (fun _ _ w hp hw => by obtain ⟨rfl, rfl⟩ := hp; exact hw.ent entA))
               rintro _ _ ⟨rfl, rfl⟩
               (refine go ?_)
               refine J_alloc (U := tab) rfl rfl rfl (fun _ w hw => hw.ent entA) ?_
               intro b17
               (refine go ?_)
               refine J_isStore ?_; first | refine J_store (U := tab) 0 (fun w hw => hw.ent entA) rfl rfl rfl rfl rfl rfl rfl rfl rfl ?_ | refine J_store (U := tab) 1 (fun w hw => hw.ent entA) rfl rfl rfl rfl rfl rfl rfl rfl rfl ?_
               (refine go ?_))
            | (refine J_alloc (U := tab) rfl rfl rfl (fun _ w hw => hw.ent entA) ?_
               intro b17
               (refine go ?_)
               (first | refine J_callE rfl rfl rfl rfl (Of_some p0 Wa x.id fa) entA ?_ (fun _ _ w hp hw => by obtain ⟨rfl, rfl⟩ := hp; exact hw.ent entA) | refine J_call0E rfl rfl rfl (Of_some p0 Wa x.id fa) entA ?_ (fun _ _ w hp hw => by obtain ⟨rfl, rfl⟩ := hp; exact hw.ent entA))
               rintro _ _ ⟨rfl, rfl⟩
               (refine go ?_)
               refine J_isStore ?_; first | refine J_store (U := tab) 0 (fun w hw => hw.ent entA) rfl rfl rfl rfl rfl rfl rfl rfl rfl ?_ | refine J_store (U := tab) 1 (fun w hw => hw.ent entA) rfl rfl rfl rfl rfl rfl rfl rfl rfl ?_
               (refine go ?_)))
          all_goals refine K_ent (entA : Ent _ (pts b17 (cl (mmC ya) 30) :: pts b5 (cl [ptr p0, ptr p1, ptr p2] 25) :: X :: viewH p0 Wa :: viewH p1 Wb :: viewH p2 Wc :: F)) ?_
          all_goals (
            refine K_drawA (fun w => Sat G w ([pts b5 (cl [ptr p0, ptr p1, ptr p2] 25), X])) (.st 0 (.st 1 (.st 2 (.st 3 (.st 4 (.st 5 (.st 6 (.fork (.act 7 (.st 8 (.st 9 (.st 10 (.act 11 (.act 12 (.st 13 .nil))))))) (.act 11 (.act 7 (.st 8 (.st 9 (.st 10 (.act 12 (.st 13 .nil))))))))))))))) rfl (by kernel_rfl) (by kernel_rfl) (by kernel_rfl) (fun w hw => hw.ent entA) ?_
            (repeat (first | refine go1 ?_ | refine J_fork ?_ ?_ | refine J_indexArr (U := tab) rfl rfl rfl rfl rfl rfl (by omega) (by omega) ?_ | refine J_at (U := tab) j 4 rfl rfl rfl rfl rfl rfl rfl rfl hj' ?_ | (refine J_isLoad ?_; refine J_loadAtS (U := tab) 1 (j * 4 + 0) rfl rfl rfl hv (Nat.add_assoc _ _ _) m0 rfl rfl ?_)))
            all_goals (first
              | ((first | refine J_callE rfl rfl rfl rfl (Of_some p1 Wb x.id fb) entA ?_ (fun _ _ w hp hw => by obtain ⟨rfl, rfl⟩ := hp; exact hw.ent entA) | refine J_call0E rfl rfl rfl (Of_some p1 Wb x.id fb) entA ?_ (fun _ _ w hp hw => by obtain ⟨rfl, rfl⟩ := hp; exact hw.ent entA))
                 rintro _ _ ⟨rfl, rfl⟩
                 (refine go ?_)
                 refine J_alloc (U := tab) rfl rfl rfl (fun _ w hw => hw.ent entA) ?_
                 intro b19
                 (refine go ?_)
                 refine J_isStore ?_; first | refine J_store (U := tab) 0 (fun w hw => hw.ent entA) rfl rfl rfl rfl rfl rfl rfl rfl rfl ?_ | refine J_store (U := tab) 1 (fun w hw => hw.ent entA) rfl rfl rfl rfl rfl rfl rfl rfl rfl ?_
                 (refine go ?_))
              | (refine J_alloc (U := tab) rfl rfl rfl (fun _ w hw => hw.ent entA) ?_
                 intro b19
                 (refine go ?_)
                 (first | refine J_callE rfl rfl rfl rfl (Of_some p1 Wb x.id fb) entA ?_ (fun _ _ w hp hw => by obtain ⟨rfl, rfl⟩ := hp; exact hw.ent entA) | refine J_call0E rfl rfl rfl (Of_some p1 Wb x.id fb) entA ?_ (fun _ _ w hp hw => by obtain ⟨rfl, rfl⟩ := hp; exact hw.ent entA))
                 rintro _ _ ⟨rfl, rfl⟩
                 (refine go ?_)
                 refine J_isStore ?_; first | refine J_store (U := tab) 0 (fun w hw => hw.ent entA) rfl rfl rfl rfl rfl rfl rfl rfl rfl ?_ | refine J_store (U := tab) 1 (fun w hw => hw.ent entA) rfl rfl rfl rfl rfl rfl rfl rfl rfl ?_
                 (refine go ?_)))
            all_goals refine K_ent (entA : Ent _ (pts b19 (cl (mmC yb) 30) :: pts b17 (cl (mmC ya) 30) :: pts b5 (cl [ptr p0, ptr p1, ptr p2] 25) :: X :: viewH p0 Wa :: viewH p1 Wb :: viewH p2 Wc :: F)) ?_
          )
          all_goals (
            refine K_drawA (fun w => Sat G w ([pts b5 (cl [ptr p0, ptr p1, ptr p2] 25), X])) (.st 0 (.st 1 (.st 2 (.st 3 (.st 4 (.st 5 (.st 6 (.fork (.act 7 (.st 8 (.st 9 (.st 10 (.act 11 (.act 12 (.st 13 .nil))))))) (.act 11 (.act 7 (.st 8 (.st 9 (.st 10 (.act 12 (.st 13 .nil))))))))))))))) rfl (by kernel_rfl) (by kernel_rfl) (by kernel_rfl) (fun w hw => hw.ent entA) ?_
            (repeat (first | refine go1 ?_ | refine J_fork ?_ ?_ | refine J_indexArr (U := tab) rfl rfl rfl rfl rfl rfl (by omega) (by omega) ?_ | refine J_at (U := tab) j 4 rfl rfl rfl rfl rfl rfl rfl rfl hj' ?_ | (refine J_isLoad ?_; refine J_loadAtS (U := tab) 1 (j * 4 + 0) rfl rfl rfl hv (Nat.add_assoc _ _ _) m0 rfl rfl ?_)))
            all_goals (first
              | ((first | refine J_callE rfl rfl rfl rfl (Of_some p2 Wc x.id fc) entA ?_ (fun _ _ w hp hw => by obtain ⟨rfl, rfl⟩ := hp; exact hw.ent entA) | refine J_call0E rfl rfl rfl (Of_some p2 Wc x.id fc) entA ?_ (fun _ _ w hp hw => by obtain ⟨rfl, rfl⟩ := hp; exact hw.ent entA))
                 rintro _ _ ⟨rfl, rfl⟩
                 (refine go ?_)
                 refine J_alloc (U := tab) rfl rfl rfl (fun _ w hw => hw.ent entA) ?_
                 intro b21
                 (refine go ?_)
                 refine J_isStore ?_; first | refine J_store (U := tab) 0 (fun w hw => hw.ent entA) rfl rfl rfl rfl rfl rfl rfl rfl rfl ?_ | refine J_store (U := tab) 1 (fun w hw => hw.ent entA) rfl rfl rfl rfl rfl rfl rfl rfl rfl ?_
                 (refine go ?_))
              | (refine J_alloc (U := tab) rfl rfl rfl (fun _ w hw => hw.ent entA) ?_
                 intro b21
                 (refine go ?_)
                 (first | refine J_callE rfl rfl rfl rfl (Of_some p2 Wc x.id fc) entA ?_ (fun _ _ w hp hw => by obtain ⟨rfl, rfl⟩ := hp; exact hw.ent entA) | refine J_call0E rfl rfl rfl (Of_some p2 Wc x.id fc) entA ?_ (fun _ _ w hp hw => by obtain ⟨rfl, rfl⟩ := hp; exact hw.ent entA))
                 rintro _ _ ⟨rfl, rfl⟩
                 (refine go ?_)
                 refine J_isStore ?_; first | refine J_store (U := tab) 0 (fun w hw => hw.ent entA) rfl rfl rfl rfl rfl rfl rfl rfl rfl ?_ | refine J_store (U := tab) 1 (fun w hw => hw.ent entA) rfl rfl rfl rfl rfl rfl rfl rfl rfl ?_
                 (refine go ?_)))
          )
          all_goals (
            repeat' (first | (with_reducible intro _hh) | refine go1 ?_ | refine J_fork ?_ ?_ | refine J_gsP rfl rfl rfl rfl ?_ ?_ | refine K_condP rfl rfl ?_ ?_)
            all_goals first
              | (exfalso; omega)
              | (refine K_again ih (j + 1) rfl (by omega) (by omega) (by repeat (first | exact keep_nil | refine keep_cons rfl ?_)) entA)))
  intro hlt
  simp only at hlt
  have hi' : i < l.length := by omega
  obtain ⟨x, hx⟩ : ∃ x, l[i]? = some x := ⟨l[i], by simp⟩
  have hxm := List.mem_of_getElem? hx
  have m0 : (mV l)[i * 4 + 0]? = some (.int .i64 x.id) := (chunk_get mmC_len hx 0 (by omega)).trans rfl
  have m2 : (mV l)[i * 4 + 2]? = some (.int .i64 x.st) := (chunk_get mmC_len hx 2 (by omega)).trans rfl
  obtain ⟨lb, lo, lcc, hls⟩ := hv.some (by rw [← List.length_pos_iff, mV_len]; omega)
  simp only [Value.slice.injEq, true_and] at hls
  obtain ⟨rfl, rfl⟩ := hls
  repeat' (first | (with_reducible intro _hh) | refine go1 ?_ | refine J_fork ?_ ?_ | refine J_gsP rfl rfl rfl rfl ?_ ?_ | refine K_condP rfl rfl ?_ ?_ | refine J_at (U := tab) i 4 rfl rfl rfl rfl rfl rfl rfl rfl hi' ?_ | (refine J_isLoad ?_; first | refine J_loadAt (U := tab) 1 (i * 4 + 0) rfl rfl rfl hv (Nat.add_assoc _ _ _) m0 rfl rfl ?_ | refine J_loadAt (U := tab) 1 (i * 4 + 2) rfl rfl rfl hv (Nat.add_assoc _ _ _) m2 rfl rfl ?_))
  · (first | refine K_return hE Try.func3 rfl _ rfl ⟨rfl, rfl⟩ entA | refine K_fallEnd hE Try.func3 rfl _ rfl ⟨rfl, rfl⟩ entA)
  · (first | refine K_return hE Try.func3 rfl _ rfl ⟨rfl, rfl⟩ entA | refine K_fallEnd hE Try.func3 rfl _ rfl ⟨rfl, rfl⟩ entA)
  rename_i hid0
  have hid : x.id < 65534 := by omega
  have hst : x.st ≠ 3 := _hh
  (refine go ?_)
  have h3 : i % 3 = 0 ∨ i % 3 = 1 ∨ i % 3 = 2 := by omega
  rcases h3 with h3 | h3 | h3
  · refine K_drawA (fun w => Sat G w ([pts b5 (cl [ptr p0, ptr p1, ptr p2] 25), X])) (sts 0 8 (.act 8 .nil)) rfl (by kernel_rfl) (by kernel_rfl) (by kernel_rfl) (fun w hw => hw.ent entA) ?_
    (refine go ?_)
    refine J_rem rfl rfl rfl (by omega) (by omega) ?_
    (first | refine J_slot 66 ((.int .i64 0)) rfl ((congrArg (Value.int .i64) (by simp only; omega))) ?_ | refine K_slot 66 ((.int .i64 0)) rfl ((congrArg (Value.int .i64) (by simp only; omega))) ?_)
    (repeat (first | refine go1 ?_ | refine J_fork ?_ ?_ | refine J_indexArr (U := tab) rfl rfl rfl rfl rfl rfl (by omega) (by omega) ?_ | refine J_at (U := tab) i 4 rfl rfl rfl rfl rfl rfl rfl rfl hi' ?_))
    refine J_isLoad ?_
    refine J_loadElemS (U := tab) (es := mmC x) 1 (i * 4) rfl rfl rfl hv rfl (fun j v hj => ?_) rfl rfl rfl ?_
    · have hj3 : j < 4 := by
        rcases Nat.lt_or_ge j 4 with h | h
        · exact h
        · rw [List.getElem?_eq_none (by rw [mmC_len]; exact h)] at hj; cases hj
      rw [show mV l = l.flatMap mmC from rfl, chunk_get mmC_len hx j hj3]; exact hj
    (refine go ?_)
    obtain ⟨q1, q2, q3⟩ := hear_one ga hxm hid hst
    have hlen2 := ga.len
    have hss := ga.sok.slf ga.sid
    (first | refine J_callE rfl rfl rfl rfl (Hear_any p0 Wa x 1 (by rw [ga.most]; omega) (by rw [ga.most]; omega) (by omega)) entA ?_ (fun _ _ _ _ _ => trivial) | refine J_call0E rfl rfl rfl (Hear_any p0 Wa x 1 (by rw [ga.most]; omega) (by rw [ga.most]; omega) (by omega)) entA ?_ (fun _ _ _ _ _ => trivial) | (refine go ?_; first | refine J_callE rfl rfl rfl rfl (Hear_any p0 Wa x 1 (by rw [ga.most]; omega) (by rw [ga.most]; omega) (by omega)) entA ?_ (fun _ _ _ _ _ => trivial) | refine J_call0E rfl rfl rfl (Hear_any p0 Wa x 1 (by rw [ga.most]; omega) (by rw [ga.most]; omega) (by omega)) entA ?_ (fun _ _ _ _ _ => trivial)))
    rintro _ _ ⟨rfl, rfl⟩
    (refine go ?_)
    refine K_again ih ⟨i + 1, (hearA Wa x 1).2, Wb, Wc⟩ rfl ⟨by simp only; omega, ⟨q1, gb, gc⟩, fun j y hj hy hr => by
      simp only
      rcases Nat.lt_or_ge j i with h | h
      · have h1 := hal j y h hy
        have h2 := hkn j y h hy hr
        have h3 := q2 y.id h1.1
        simp only at h2
        omega
      · have : j = i := by simp only at hj; omega
        subst this
        rw [hx] at hy
        obtain rfl := Option.some.inj hy
        have h3 := q3 hr
        omega, fun j y hj hy => by
      rcases Nat.lt_or_ge j i with h | h
      · exact hal j y h hy
      · have : j = i := by simp only at hj; omega
        subst this
        rw [hx] at hy
        obtain rfl := Option.some.inj hy
        exact ⟨hid, hst⟩⟩ (by simp only; omega) (by repeat (first | exact keep_nil | refine keep_cons rfl ?_)) entA
  · refine K_drawA (fun w => Sat G w ([pts b5 (cl [ptr p0, ptr p1, ptr p2] 25), X])) (sts 0 8 (.act 8 .nil)) rfl (by kernel_rfl) (by kernel_rfl) (by kernel_rfl) (fun w hw => hw.ent entA) ?_
    (refine go ?_)
    refine J_rem rfl rfl rfl (by omega) (by omega) ?_
    (first | refine J_slot 66 ((.int .i64 1)) rfl ((congrArg (Value.int .i64) (by simp only; omega))) ?_ | refine K_slot 66 ((.int .i64 1)) rfl ((congrArg (Value.int .i64) (by simp only; omega))) ?_)
    (repeat (first | refine go1 ?_ | refine J_fork ?_ ?_ | refine J_indexArr (U := tab) rfl rfl rfl rfl rfl rfl (by omega) (by omega) ?_ | refine J_at (U := tab) i 4 rfl rfl rfl rfl rfl rfl rfl rfl hi' ?_))
    refine J_isLoad ?_
    refine J_loadElemS (U := tab) (es := mmC x) 1 (i * 4) rfl rfl rfl hv rfl (fun j v hj => ?_) rfl rfl rfl ?_
    · have hj3 : j < 4 := by
        rcases Nat.lt_or_ge j 4 with h | h
        · exact h
        · rw [List.getElem?_eq_none (by rw [mmC_len]; exact h)] at hj; cases hj
      rw [show mV l = l.flatMap mmC from rfl, chunk_get mmC_len hx j hj3]; exact hj
    (refine go ?_)
    obtain ⟨q1, q2, q3⟩ := hear_one gb hxm hid hst
    have hlen2 := gb.len
    have hss := gb.sok.slf gb.sid
    (first | refine J_callE rfl rfl rfl rfl (Hear_any p1 Wb x 1 (by rw [gb.most]; omega) (by rw [gb.most]; omega) (by omega)) entA ?_ (fun _ _ _ _ _ => trivial) | refine J_call0E rfl rfl rfl (Hear_any p1 Wb x 1 (by rw [gb.most]; omega) (by rw [gb.most]; omega) (by omega)) entA ?_ (fun _ _ _ _ _ => trivial) | (refine go ?_; first | refine J_callE rfl rfl rfl rfl (Hear_any p1 Wb x 1 (by rw [gb.most]; omega) (by rw [gb.most]; omega) (by omega)) entA ?_ (fun _ _ _ _ _ => trivial) | refine J_call0E rfl rfl rfl (Hear_any p1 Wb x 1 (by rw [gb.most]; omega) (by rw [gb.most]; omega) (by omega)) entA ?_ (fun _ _ _ _ _ => trivial)))
    rintro _ _ ⟨rfl, rfl⟩
    (refine go ?_)
    refine K_again ih ⟨i + 1, Wa, (hearA Wb x 1).2, Wc⟩ rfl ⟨by simp only; omega, ⟨ga, q1, gc⟩, fun j y hj hy hr => by
      simp only
      rcases Nat.lt_or_ge j i with h | h
      · have h1 := hal j y h hy
        have h2 := hkn j y h hy hr
        have h3 := q2 y.id h1.1
        simp only at h2
        omega
      · have : j = i := by simp only at hj; omega
        subst this
        rw [hx] at hy
        obtain rfl := Option.some.inj hy
        have h3 := q3 hr
        omega, fun j y hj hy => by
      rcases Nat.lt_or_ge j i with h | h
      · exact hal j y h hy
      · have : j = i := by simp only at hj; omega
        subst this
        rw [hx] at hy
        obtain rfl := Option.some.inj hy
        exact ⟨hid, hst⟩⟩ (by simp only; omega) (by repeat (first | exact keep_nil | refine keep_cons rfl ?_)) entA
  · refine K_drawA (fun w => Sat G w ([pts b5 (cl [ptr p0, ptr p1, ptr p2] 25), X])) (sts 0 8 (.act 8 .nil)) rfl (by kernel_rfl) (by kernel_rfl) (by kernel_rfl) (fun w hw => hw.ent entA) ?_
    (refine go ?_)
    refine J_rem rfl rfl rfl (by omega) (by omega) ?_
    (first | refine J_slot 66 ((.int .i64 2)) rfl ((congrArg (Value.int .i64) (by simp only; omega))) ?_ | refine K_slot 66 ((.int .i64 2)) rfl ((congrArg (Value.int .i64) (by simp only; omega))) ?_)
    (repeat (first | refine go1 ?_ | refine J_fork ?_ ?_ | refine J_indexArr (U := tab) rfl rfl rfl rfl rfl rfl (by omega) (by omega) ?_ | refine J_at (U := tab) i 4 rfl rfl rfl rfl rfl rfl rfl rfl hi' ?_))
    refine J_isLoad ?_
    refine J_loadElemS (U := tab) (es := mmC x) 1 (i * 4) rfl rfl rfl hv rfl (fun j v hj => ?_) rfl rfl rfl ?_
    · have hj3 : j < 4 := by
        rcases Nat.lt_or_ge j 4 with h | h
        · exact h
        · rw [List.getElem?_eq_none (by rw [mmC_len]; exact h)] at hj; cases hj
      rw [show mV l = l.flatMap mmC from rfl, chunk_get mmC_len hx j hj3]; exact hj
    (refine go ?_)
    obtain ⟨q1, q2, q3⟩ := hear_one gc hxm hid hst
    have hlen2 := gc.len
    have hss := gc.sok.slf gc.sid
    (first | refine J_callE rfl rfl rfl rfl (Hear_any p2 Wc x 1 (by rw [gc.most]; omega) (by rw [gc.most]; omega) (by omega)) entA ?_ (fun _ _ _ _ _ => trivial) | refine J_call0E rfl rfl rfl (Hear_any p2 Wc x 1 (by rw [gc.most]; omega) (by rw [gc.most]; omega) (by omega)) entA ?_ (fun _ _ _ _ _ => trivial) | (refine go ?_; first | refine J_callE rfl rfl rfl rfl (Hear_any p2 Wc x 1 (by rw [gc.most]; omega) (by rw [gc.most]; omega) (by omega)) entA ?_ (fun _ _ _ _ _ => trivial) | refine J_call0E rfl rfl rfl (Hear_any p2 Wc x 1 (by rw [gc.most]; omega) (by rw [gc.most]; omega) (by omega)) entA ?_ (fun _ _ _ _ _ => trivial)))
    rintro _ _ ⟨rfl, rfl⟩
    (refine go ?_)
    refine K_again ih ⟨i + 1, Wa, Wb, (hearA Wc x 1).2⟩ rfl ⟨by simp only; omega, ⟨ga, gb, q1⟩, fun j y hj hy hr => by
      simp only
      rcases Nat.lt_or_ge j i with h | h
      · have h1 := hal j y h hy
        have h2 := hkn j y h hy hr
        have h3 := q2 y.id h1.1
        simp only at h2
        omega
      · have : j = i := by simp only at hj; omega
        subst this
        rw [hx] at hy
        obtain rfl := Option.some.inj hy
        have h3 := q3 hr
        omega, fun j y hj hy => by
      rcases Nat.lt_or_ge j i with h | h
      · exact hal j y h hy
      · have : j = i := by simp only at hj; omega
        subst this
        rw [hx] at hy
        obtain rfl := Option.some.inj hy
        exact ⟨hid, hst⟩⟩ (by simp only; omega) (by repeat (first | exact keep_nil | refine keep_cons rfl ?_)) entA
end Go.Proofs.Ythcjmhlmoamjpaa

/- Engine, part W: rows of structs that came in, read off the given row's own reading. Nothing here names a program. -/
set_option linter.unusedVariables false
set_option linter.unusedSimpArgs false
namespace Go.SL
open Go Go.RowKit Go.ChangeShapes Go.WideShapes

section
variable {P : Program} {H : Type} {enc : TypeId × Value → H} {W : World} {base : Nat} {spare : Nat → Bool} {held : Bool}
theorem open_bytesP {t e : TypeId} (ht : P.underlying t = some (.slice e)) (he : P.underlying e = some (.int .u8)) (hc : P.cellsOf e = 1) {fuel : Nat} {cs : List Value} {x : DataW H × List MemPlace} (h : DataW.trod enc P W base spare held fuel t cs = some x) :
    ∃ (a : Option Addr) (c : Nat) (bs : List UInt8), cs = [.slice a bs.length c] ∧ bs.length ≤ 9223372036854775807 ∧ Vw (old W) (.slice a bs.length c) bs.length (bV bs) := by
  have hmx : maxLen = 9223372036854775807 := by decide
  rcases open_ints ht he hc h with ⟨hcs, _⟩ | ⟨x, l, c, zs, hcs, _, hl, hm, hz, _, hcell, hwz⟩
  · subst hcs
    exact ⟨none, 0, [], rfl, by simp, nil_view W⟩
  · subst hcs
    obtain ⟨bs, h1, h2⟩ := bytes_view (len := l) (cap := c) (by split at hz <;> omega) hcell hwz
    subst h1
    exact ⟨some x, c, bs, rfl, by omega, h2⟩
theorem open_rows {α : Type} [Inhabited α] {t e : TypeId} (ht : P.underlying t = some (.slice e)) (g : α → List Value) (s : Nat) (hs0 : 0 < s) (hs : ∀ x, (g x).length = s) (hc : P.cellsOf e = s) (Q : α → Prop)
    (hopen : ∀ (fuel : Nat) (cs : List Value) (x : DataW H × List MemPlace), DataW.trod enc P W base spare held fuel e cs = some x → ∃ y, cs = g y ∧ Q y)
    {fuel : Nat} {cs : List Value} {x : DataW H × List MemPlace} (h : DataW.trod enc P W base spare held fuel t cs = some x) : ∃ (l : List α) (a : Option Addr) (c : Nat), cs = [.slice a l.length c] ∧ Vw (old W) (.slice a l.length c) l.length (l.flatMap g) ∧ (∀ x ∈ l, Q x) ∧ l.length ≤ 9223372036854775807 := by
  have hmx : maxLen = 9223372036854775807 := by decide
  rcases Go.Deep.open_slice ht h with ⟨hcs, _⟩ | ⟨a, len, cap, m, n, D, Pl, hcs, hb, hl, hm, hmm, _, hx⟩
  · subst hcs
    exact ⟨[], none, 0, rfl, ⟨none, 0, rfl, .inl rfl⟩, by simp, by simp⟩
  · subst hcs
    have hml : len ≤ m := by rw [hmm]; split <;> omega
    have hx2 : ∀ i, i < len → ∃ y : α, (∀ k, k < s → W.cell? (a.add (i * s + k)) = (g y)[k]?) ∧ Q y := fun i hi => by
      obtain ⟨cs', h1, h2⟩ := hx i (by omega)
      obtain ⟨y, rfl, hy⟩ := hopen _ _ _ h2
      rw [hc] at h1
      obtain ⟨_, _, h3⟩ := World.cells?_some h1
      refine ⟨y, fun k hk => ?_, hy⟩
      rw [← h3 k hk, Addr.add_add]
    obtain ⟨f, hfy⟩ := Go.Deep.choose_lt hx2
    refine ⟨(List.range len).map f, some a, cap, by simp, ⟨some a, cap, by simp, ?_⟩, ?_, by simp; omega⟩
    · rcases Nat.eq_zero_or_pos len with h0 | h0
      · left; subst h0; simp
      · right
        obtain ⟨b, o, spot⟩ := a
        have hsp : spot = none := by
          have := (hfy 0 h0).1 0 hs0
          rw [Nat.zero_mul, Nat.zero_add, List.getElem?_eq_getElem (by rw [hs]; exact hs0)] at this
          simpa [Addr.add] using World.cell?_spot (this.trans rfl)
        subst hsp
        refine ⟨b, o, rfl, fun h ho j c hj => ?_⟩
        have hjl : j < len * s := by
          rcases Nat.lt_or_ge j (len * s) with h | h
          · exact h
          · rw [List.getElem?_eq_none (by rw [chunk_len hs]; simpa using h)] at hj; cases hj
        have hd : j / s < len := Nat.div_lt_of_lt_mul (by rw [Nat.mul_comm]; exact hjl)
        have hk : j % s < s := Nat.mod_lt _ hs0
        have hjj : j / s * s + j % s = j := by rw [Nat.mul_comm]; exact Nat.div_add_mod _ _
        have h1 := chunk_get hs (l := (List.range len).map f) (i := j / s) (x := f (j / s)) (by simp [hd]) (j % s) hk
        rw [hjj, hj] at h1
        have h2 := (hfy _ hd).1 _ hk
        rw [hjj, Addr.add_eq] at h2
        exact hcell_of_cell ho (h2.trans h1.symm)
    · intro x hx
      obtain ⟨i, hi, rfl⟩ := List.mem_map.1 hx
      exact (hfy i (by simpa using hi)).2
/-- The parts of a struct, one by one: its fields' types with what is asked of the cells of each. -/
inductive Parts (enc : TypeId × Value → H) (P : Program) (W : World) (base : Nat) (spare : Nat → Bool) (held : Bool) (n : Nat) : List TypeId → List Value → Prop where
  | nil : Parts enc P W base spare held n [] []
  | cons {t : TypeId} {ts : List TypeId} {cs rest : List Value} {x : DataW H × List MemPlace} (h : DataW.trod enc P W base spare held n t cs = some x) (hr : Parts enc P W base spare held n ts rest) : Parts enc P W base spare held n (t :: ts) (cs ++ rest)
def offs (P : Program) : Nat → List TypeId → List Nat
  | _, [] => []
  | o, t :: ts => o :: offs P (o + P.cellsOf t) ts
theorem open_struct {t : TypeId} {fs : Array Field} (ht : P.underlying t = some (.struct fs)) (ho : fs.toList.map Field.offset = offs P 0 (fs.toList.map Field.type)) (hn : P.cellsOf t = (fs.toList.map fun f : Field => P.cellsOf f.type).sum)
    {fuel : Nat} {cs : List Value} {x : DataW H × List MemPlace} (h : DataW.trod enc P W base spare held fuel t cs = some x) : ∃ n, Parts enc P W base spare held n (fs.toList.map Field.type) cs := by
  obtain ⟨xs, n, _, _, hlen, hxl, hf⟩ := DataW.trod_struct ht h
  refine ⟨n, ?_⟩
  have key : ∀ (l : List Field) (o k : Nat) (cs : List Value), cs.length = (l.map fun f : Field => P.cellsOf f.type).sum → l.map Field.offset = offs P o (l.map Field.type) →
      (∀ (j : Nat) (f : Field), l[j]? = some f → ∃ y, DataW.trod enc P W base spare held n f.type ((cs.drop (f.offset - o)).take (P.cellsOf f.type)) = some y) → Parts enc P W base spare held n (l.map Field.type) cs := by
    intro l
    induction l with
    | nil => intro o k cs hl _ _; simp at hl; subst hl; exact .nil
    | cons f l ih =>
      intro o k cs hl hoff hall
      simp only [List.map_cons, List.sum_cons] at hl
      simp only [List.map_cons, offs, List.cons.injEq] at hoff
      obtain ⟨h1, h2⟩ := hoff
      obtain ⟨y, hy⟩ := hall 0 f rfl
      rw [h1, Nat.sub_self, List.drop_zero] at hy
      have hsub := ih (o + P.cellsOf f.type) 0 (cs.drop (P.cellsOf f.type)) (by rw [List.length_drop]; omega) h2 (fun j f' hj => by
        obtain ⟨y', hy'⟩ := hall (j + 1) f' (by simpa using hj)
        have hge : o + P.cellsOf f.type ≤ f'.offset := by
          have hmem : f'.offset ∈ offs P (o + P.cellsOf f.type) (l.map Field.type) := by rw [← h2]; exact List.mem_map.2 ⟨f', List.mem_of_getElem? hj, rfl⟩
          have hmono : ∀ (ts : List TypeId) (p q : Nat), q ∈ offs P p ts → p ≤ q := by
            intro ts
            induction ts with
            | nil => intro p q hq; cases hq
            | cons t ts ih => intro p q hq; rcases List.mem_cons.1 hq with rfl | hq; exact Nat.le_refl _; have := ih _ _ hq; omega
          exact hmono _ _ _ hmem
        refine ⟨y', ?_⟩
        rw [List.drop_drop, show P.cellsOf f.type + (f'.offset - (o + P.cellsOf f.type)) = f'.offset - o from by omega]
        exact hy')
      have := Parts.cons hy hsub
      rw [List.take_append_drop] at this
      exact this
  refine key fs.toList 0 0 cs (by rw [hlen, hn]) ho fun j f hj => ?_
  have hj' : fs[j]? = some f := by simpa using hj
  have hjl : j < xs.length := by
    rw [hxl]
    rcases Nat.lt_or_ge j fs.size with h | h
    · exact h
    · rw [Array.getElem?_eq_none h] at hj'; cases hj'
  refine ⟨xs[j], ?_⟩
  rw [Nat.sub_zero]
  have := hf j f hj'
  rw [this]
  simp [hjl]
theorem Parts.inv {n : Nat} {t : TypeId} {ts : List TypeId} {cs : List Value} (h : Parts enc P W base spare held n (t :: ts) cs) : ∃ c0 rest x, cs = c0 ++ rest ∧ DataW.trod enc P W base spare held n t c0 = some x ∧ Parts enc P W base spare held n ts rest := by
  cases h with
  | cons h hr => exact ⟨_, _, _, rfl, h, hr⟩
theorem Parts.inv0 {n : Nat} {cs : List Value} (h : Parts enc P W base spare held n [] cs) : cs = [] := by cases h; rfl
/-- A part that is a number. -/
theorem Parts.int {n : Nat} {t : TypeId} {ts : List TypeId} {cs : List Value} {k : IntKind} (h : Parts enc P W base spare held n (t :: ts) cs) (ht : P.underlying t = some (.int k)) : ∃ (z : Int) (rest : List Value), cs = .int k z :: rest ∧ (Lit.int k z).wf = true ∧ Parts enc P W base spare held n ts rest := by
  obtain ⟨c0, rest, x, rfl, h0, hr⟩ := h.inv
  obtain ⟨z, rfl, _, hw⟩ := DataW.trod_int ht h0
  exact ⟨z, rest, rfl, hw, hr⟩
theorem Parts.str {n : Nat} {t : TypeId} {ts : List TypeId} {cs : List Value} (h : Parts enc P W base spare held n (t :: ts) cs) (ht : P.underlying t = some .string) : ∃ (z : ByteArray) (rest : List Value), cs = .string z :: rest ∧ z.size ≤ 9223372036854775807 ∧ Parts enc P W base spare held n ts rest := by
  have hmx : maxLen = 9223372036854775807 := by decide
  obtain ⟨c0, rest, x, rfl, h0, hr⟩ := h.inv
  obtain ⟨z, rfl, _, hw⟩ := DataW.trod_string ht h0
  exact ⟨z, rest, rfl, by omega, hr⟩
theorem Parts.bytes {n : Nat} {t e : TypeId} {ts : List TypeId} {cs : List Value} (h : Parts enc P W base spare held n (t :: ts) cs) (ht : P.underlying t = some (.slice e)) (he : P.underlying e = some (.int .u8)) (hc : P.cellsOf e = 1) : ∃ (a : Option Addr) (c : Nat) (bs : List UInt8) (rest : List Value), cs = .slice a bs.length c :: rest ∧ bs.length ≤ 9223372036854775807 ∧ Vw (old W) (.slice a bs.length c) bs.length (bV bs) ∧ Parts enc P W base spare held n ts rest := by
  obtain ⟨c0, rest, x, rfl, h0, hr⟩ := h.inv
  obtain ⟨a, c, bs, rfl, h2, h3⟩ := open_bytesP ht he hc h0
  exact ⟨a, c, bs, rest, rfl, h2, h3, hr⟩
end
end Go.SL

/- TopGossip, part x2: members and pairs that came in, read off the given row's own reading. -/
set_option linter.unusedVariables false
set_option linter.unusedSimpArgs false
namespace Go.Proofs.Ythcjmhlmoamjpaa
open Go Go.SL Go.RowKit Go.ChangeShapes Go.WideShapes
section
variable {H : Type} {enc : TypeId × Value → H} {W : World} {base : Nat} {spare : Nat → Bool} {held : Bool}
instance : Inhabited Mem := ⟨⟨0, 0, 0, 0⟩⟩
def MemsIn (X : HP) (v : Value) (l : List Mem) : Prop := Vw X v l.length (mV l) ∧ l.length ≤ 9223372036854775807
def PairsIn (X : HP) (v : Value) (l : List (Int × Int)) : Prop := Vw X v l.length (l.flatMap pC) ∧ l.length ≤ 9223372036854775807
theorem open_mem (fuel : Nat) (cs : List Value) (x : DataW H × List MemPlace) (h : DataW.trod enc Try.prog W base spare held fuel 30 cs = some x) : ∃ y : Mem, cs = mmC y ∧ True := by
  obtain ⟨n, hp⟩ := open_struct (Try.underlying30 : _ = some (TypeDesc.struct _)) (by kernel_rfl) (by kernel_rfl) h
  obtain ⟨z0, r0, rfl, w0, hp⟩ := hp.int Try.underlying3
  obtain ⟨z1, r1, rfl, w1, hp⟩ := hp.int Try.underlying3
  obtain ⟨z2, r2, rfl, w2, hp⟩ := hp.int Try.underlying3
  obtain ⟨z3, r3, rfl, w3, hp⟩ := hp.int Try.underlying3
  have := hp.inv0
  subst this
  exact ⟨⟨z0, z1, z2, z3⟩, rfl, trivial⟩
theorem open_mems {fuel : Nat} {v : Value} {x : DataW H × List MemPlace} (h : DataW.trod enc Try.prog W base spare held fuel 22 [v] = some x) : ∃ l : List Mem, MemsIn (old W) v l := by
  obtain ⟨l, a, c, hcs, h1, h2, h3⟩ := open_rows Try.underlying22 mmC 4 (by omega) mmC_len (by kernel_rfl) (fun _ => True) open_mem h
  simp only [List.cons.injEq, and_true] at hcs
  subst hcs
  exact ⟨l, h1, h3⟩
theorem open_pair (fuel : Nat) (cs : List Value) (x : DataW H × List MemPlace) (h : DataW.trod enc Try.prog W base spare held fuel 33 cs = some x) : ∃ y : Int × Int, cs = pC y ∧ True := by
  obtain ⟨l, h1, h2, h3⟩ := open_arrI (cs := cs.toArray) Try.underlying33 Try.underlying3 (by kernel_rfl) (by kernel_rfl) (by simpa [Value.cells] using h)
  match l, h1 with
  | [x, y], _ => exact ⟨(x, y), by simpa [iV, pC] using congrArg Array.toList h2, trivial⟩
theorem open_pairs {fuel : Nat} {v : Value} {x : DataW H × List MemPlace} (h : DataW.trod enc Try.prog W base spare held fuel 23 [v] = some x) : ∃ l : List (Int × Int), PairsIn (old W) v l := by
  obtain ⟨l, a, c, hcs, h1, h2, h3⟩ := open_rows Try.underlying23 pC 2 (by omega) pC_len (by kernel_rfl) (fun _ => True) open_pair h
  simp only [List.cons.injEq, and_true] at hcs
  subst hcs
  exact ⟨l, h1, h3⟩
end
end Go.Proofs.Ythcjmhlmoamjpaa

