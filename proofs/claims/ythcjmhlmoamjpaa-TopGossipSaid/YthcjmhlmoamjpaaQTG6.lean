/- Texts of one claim, joined: Wd, EngT2, Mc, Me, Mp, EngVi, Ms0, Mb, Wa, Wb, Md. -/
import Derived.Test.YthcjmhlmoamjpaaQTG3
import Derived.Test.YthcjmhlmoamjpaaQTG4
import Derived.Test.YthcjmhlmoamjpaaQTG5
import Derived.Shelf.SortG.Plain
import Derived.Shelf.SortG.SortNone
import Derived.Shelf.SlLaysNS
import Derived.Test.YthcjmhlmoamjpaaChecked
/- Numbers that look like chance. -/
set_option linter.unusedVariables false
set_option linter.unusedSimpArgs false
namespace Go.Proofs.Ythcjmhlmoamjpaa
open Go Go.SL
theorem wrap_u64 (x : Int) : 0 ≤ IntKind.u64.wrap x ∧ IntKind.u64.wrap x < 18446744073709551616 := by
  simp [IntKind.wrap, IntKind.bits, IntKind.signed]
  omega
def xorU (a b : Int) : Int := IntKind.u64.wrap ((BitVec.ofInt IntKind.u64.bits a ^^^ BitVec.ofInt IntKind.u64.bits b).toNat : Int)
def shrU (a : Int) (k : Int) : Int := a / 2 ^ (min k.toNat IntKind.u64.bits)
def mixV (z : Int) : Int :=
  xorU (IntKind.u64.wrap (xorU (IntKind.u64.wrap (xorU z (shrU z 30) * 13787848793156543929)) (shrU (IntKind.u64.wrap (xorU z (shrU z 30) * 13787848793156543929)) 27) * 10723151780598845931))
    (shrU (IntKind.u64.wrap (xorU (IntKind.u64.wrap (xorU z (shrU z 30) * 13787848793156543929)) (shrU (IntKind.u64.wrap (xorU z (shrU z 30) * 13787848793156543929)) 27) * 10723151780598845931)) 31)
def nextS (s : Int) : Int := IntKind.u64.wrap (s + 11400714819323198485)
theorem mixV_range (z : Int) : 0 ≤ mixV z ∧ mixV z < 18446744073709551616 := wrap_u64 _
/-- The high half of a product by a small number. -/
def belowN (x n : Nat) : Nat := (x / 4294967296 * n + x % 4294967296 * n / 4294967296) / 4294967296
theorem belowN_lt {x n : Nat} (hx : x < 18446744073709551616) (hn : 0 < n) : belowN x n < n := by
  unfold belowN
  rw [Nat.div_lt_iff_lt_mul (by decide)]
  have h1 : x / 4294967296 * n ≤ 4294967295 * n := Nat.mul_le_mul_right n (by omega)
  have h2 : x % 4294967296 * n ≤ 4294967295 * n := Nat.mul_le_mul_right n (by omega)
  have h3 : x % 4294967296 * n / 4294967296 < n := by omega
  omega
theorem parts_lt {x n : Nat} (hx : x < 18446744073709551616) (hn : n < 4294967296) : x % 4294967296 * n < 18446744073709551616 ∧ x / 4294967296 * n < 18446744073709551616 - 4294967296 ∧ x / 4294967296 * n + x % 4294967296 * n / 4294967296 < 18446744073709551616 := by
  have h1 : x / 4294967296 * n ≤ 4294967295 * 4294967295 := Nat.mul_le_mul (by omega) (by omega)
  have h2 : x % 4294967296 * n ≤ 4294967295 * 4294967295 := Nat.mul_le_mul (by omega) (by omega)
  omega
attribute [local irreducible] J K Ctr Ends pts slc mapR mapI sbRow stock arrS loopP CtrY

set_option maxRecDepth 20000 in
theorem Mul64s_any (a b : Nat) (ha : a < 18446744073709551616) (hb : b < 4294967296) : Ctr Try.prog 64 [.int .u64 (a : Int), .int .u64 (b : Int)] [] (fun r H => (∃ lo, r = .tuple #[.int .u64 ((belowN a b : Nat) : Int), .int .u64 lo]) ∧ H = []) := by
  obtain ⟨p1, p2, p3⟩ := parts_lt ha hb
  have hm : ∀ x : Nat, x < 18446744073709551616 → IntKind.u64.wrap ((BitVec.ofInt IntKind.u64.bits (x : Int) &&& BitVec.ofInt IntKind.u64.bits 4294967295).toNat : Int) = ((x % 4294967296 : Nat) : Int) := fun x hx => by
    have := and_mask_u64 x 32 (by omega) (by omega)
    rw [show ((2 ^ 32 - 1 : Nat) : Int) = 4294967295 from rfl, show x % 2 ^ 32 = x % 4294967296 from rfl] at this
    exact this
  have hs : ∀ x : Nat, (x : Int) / 2 ^ (min (Int.toNat 32) IntKind.u64.bits) = ((x / 4294967296 : Nat) : Int) := fun x => by show (x : Int) / 4294967296 = _; omega
  refine Ctr.enter Try.func64 (by kernel_rfl) rfl Try.ntmps64 rfl rfl ?_
  intro G F R hE
  (refine go ?_)
  refine J_slot 6 (.int .u64 ((a % 4294967296 : Nat) : Int)) rfl (congrArg (Value.int .u64) (hm a ha)) ?_
  refine J_shr rfl rfl rfl (by omega) ?_
  refine J_slot 17 (.int .u64 ((a / 4294967296 : Nat) : Int)) rfl (congrArg (Value.int .u64) (hs a)) ?_
  (refine go ?_)
  refine J_slot 8 (.int .u64 (b : Int)) rfl (congrArg (Value.int .u64) ((hm b (by omega)).trans (by rw [Nat.mod_eq_of_lt hb]))) ?_
  refine J_shr rfl rfl rfl (by omega) ?_
  refine J_slot 21 (.int .u64 0) rfl (congrArg (Value.int .u64) ((hs b).trans (by rw [Nat.div_eq_of_lt hb]; rfl))) ?_
  (refine go ?_)
  refine J_mul rfl rfl rfl (by rw [← Int.natCast_mul]; simp only [inK]; omega) ?_
  refine J_slot 24 (.int .u64 ((a % 4294967296 * b : Nat) : Int)) rfl (by rw [Int.natCast_mul]) ?_
  (refine go ?_)
  refine J_mul rfl rfl rfl (by rw [← Int.natCast_mul]; simp only [inK]; omega) ?_
  refine J_slot 27 (.int .u64 ((a / 4294967296 * b : Nat) : Int)) rfl (by rw [Int.natCast_mul]) ?_
  (refine go ?_)
  refine J_shr rfl rfl rfl (by omega) ?_
  refine J_slot 29 (.int .u64 ((a % 4294967296 * b / 4294967296 : Nat) : Int)) rfl (congrArg (Value.int .u64) (hs _)) ?_
  refine J_isBin ?_
  refine J_add rfl rfl rfl (by rw [← Int.natCast_add]; simp only [inK]; omega) ?_
  refine J_slot 30 (.int .u64 ((a / 4294967296 * b + a % 4294967296 * b / 4294967296 : Nat) : Int)) rfl (by rw [Int.natCast_add]) ?_
  (refine go ?_)
  refine J_slot 12 (.int .u64 (((a / 4294967296 * b + a % 4294967296 * b / 4294967296) % 4294967296 : Nat) : Int)) rfl (congrArg (Value.int .u64) (hm _ p3)) ?_
  refine J_shr rfl rfl rfl (by omega) ?_
  refine J_slot 34 (.int .u64 ((belowN a b : Nat) : Int)) rfl (congrArg (Value.int .u64) (hs _)) ?_
  have hbn : belowN a b < 4294967296 := by unfold belowN; omega
  (refine go ?_)
  refine J_mul rfl rfl rfl (by simp [inK]) ?_
  refine J_slot 38 (.int .u64 0) rfl (by simp) ?_
  (refine go ?_)
  refine J_mul rfl rfl rfl (by simp [inK]) ?_
  refine J_slot 42 (.int .u64 0) rfl (by simp) ?_
  (refine go ?_)
  refine J_shr rfl rfl rfl (by omega) ?_
  refine J_slot 46 (.int .u64 0) rfl (congrArg (Value.int .u64) (by
    show (_ + 0 : Int) / 4294967296 = 0
    omega)) ?_
  (refine go ?_)
  refine J_mulW rfl rfl rfl ?_
  (refine go ?_)
  (first | refine J_slot 4 ((.int .u64 ((belowN a b : Nat) : Int))) rfl ((congrArg (Value.int .u64) (by omega))) ?_ | refine K_slot 4 ((.int .u64 ((belowN a b : Nat) : Int))) rfl ((congrArg (Value.int .u64) (by omega))) ?_)
  (first | refine K_return hE Try.func64 rfl _ rfl ⟨⟨_, rfl⟩, rfl⟩ entA | refine K_fallEnd hE Try.func64 rfl _ rfl ⟨⟨_, rfl⟩, rfl⟩ entA)
theorem drawNew_any (s : Int) : Ctr Try.prog 22 [.int .u64 s] [] (fun r H => ∃ b, r = ptr b ∧ H = [pts b (cl [.int .u64 s] 89)]) := by
  refine Ctr.enter Try.func22 (by kernel_rfl) rfl Try.ntmps22 rfl rfl ?_
  intro G F R hE
  (refine go ?_)
  refine J_box rfl rfl (fun _ _ _ => trivial) ?_
  intro bx
  (refine go ?_)
  (first | refine K_return hE Try.func22 rfl _ rfl ⟨_, rfl, rfl⟩ entA | refine K_fallEnd hE Try.func22 rfl _ rfl ⟨_, rfl, rfl⟩ entA)
theorem Next_any (b : Nat) (s : Int) : Ctr Try.prog 65 [ptr b] [pts b (cl [.int .u64 s] 89)] (fun r H => r = .int .u64 (mixV (nextS s)) ∧ H = [pts b (cl [.int .u64 (nextS s)] 89)]) := by
  refine Ctr.enter Try.func65 (by kernel_rfl) rfl Try.ntmps65 rfl rfl ?_
  intro G F R hE
  (repeat (first | refine go1 ?_ | refine J_fork ?_ ?_ | refine J_shr rfl rfl rfl (by omega) ?_ | refine J_mulW rfl rfl rfl ?_ | refine J_addW rfl rfl rfl ?_))
  (first | refine K_return hE Try.func65 rfl _ rfl ⟨rfl, rfl⟩ entA | refine K_fallEnd hE Try.func65 rfl _ rfl ⟨rfl, rfl⟩ entA)
theorem Below_any (b : Nat) (s : Int) (n : Nat) (hn : n < 4294967296) : Ctr Try.prog 48 [ptr b, .int .u64 (n : Int)] [pts b (cl [.int .u64 s] 89)] (fun r H => r = .int .u64 ((belowN (mixV (nextS s)).toNat n : Nat) : Int) ∧ H = [pts b (cl [.int .u64 (nextS s)] 89)]) := by
  have hN := Next_any b s
  have hr := mixV_range (nextS s)
  obtain ⟨x, hx⟩ : ∃ x : Nat, mixV (nextS s) = (x : Int) := ⟨(mixV (nextS s)).toNat, by omega⟩
  rw [hx] at hN hr ⊢
  rw [Int.toNat_natCast]
  refine Ctr.enter Try.func48 (by kernel_rfl) rfl Try.ntmps48 rfl rfl ?_
  intro G F R hE
  (refine go ?_)
  (first | refine J_callE rfl rfl rfl rfl (hN) entA ?_ (fun _ _ _ _ _ => trivial) | refine J_call0E rfl rfl rfl (hN) entA ?_ (fun _ _ _ _ _ => trivial) | (refine go ?_; first | refine J_callE rfl rfl rfl rfl (hN) entA ?_ (fun _ _ _ _ _ => trivial) | refine J_call0E rfl rfl rfl (hN) entA ?_ (fun _ _ _ _ _ => trivial)))
  rintro _ _ ⟨rfl, rfl⟩
  (refine go ?_)
  (first | refine J_callE rfl rfl rfl rfl (Mul64s_any x n (by omega) hn) entA ?_ (fun _ _ _ _ _ => trivial) | refine J_call0E rfl rfl rfl (Mul64s_any x n (by omega) hn) entA ?_ (fun _ _ _ _ _ => trivial) | (refine go ?_; first | refine J_callE rfl rfl rfl rfl (Mul64s_any x n (by omega) hn) entA ?_ (fun _ _ _ _ _ => trivial) | refine J_call0E rfl rfl rfl (Mul64s_any x n (by omega) hn) entA ?_ (fun _ _ _ _ _ => trivial)))
  rintro _ _ ⟨⟨lo, rfl⟩, rfl⟩
  (refine go ?_)
  (first | refine K_return hE Try.func48 rfl _ rfl ⟨rfl, rfl⟩ entA | refine K_fallEnd hE Try.func48 rfl _ rfl ⟨rfl, rfl⟩ entA)
end Go.Proofs.Ythcjmhlmoamjpaa

/- Engine, part T2: the end of a call both of whose results lie in cells, also behind ranges over functions. Nothing here names a program. -/
set_option linter.unusedVariables false
set_option linter.unusedSimpArgs false
namespace Go.SL
open Go
theorem K_retW {P : Program} {f : FuncId} {n : Nat} {R : Ending → World → Prop} {G : Glob} {ds : List Nat} {k k0 : List Item} {L : Lst} {H H' : List HP} {fn : Func} {F : List HP} {Post : Value → List HP → Prop} {v : Value} {Hq : List HP}
    (hR : Ends R G F Post) (hf : P.funcs[f]? = some fn) (hk : advK 1000 k0 = .mk (.code .ret :: k)) (he : Ent H (ds.map (fun r => pts r (.deferred (some []))) ++ H'))
    (hres : ∀ a w, Has n L a → Sat { G with ds := ds } w H' → (results fn a.tmps).run P w = .ok v w) (hpost : Post v Hq) (he2 : Ent H' (Hq ++ F)) : K P f n R { G with ds := ds } k0 L H := by
  refine K_advK 1000 hk ?_
  intro a w ha hw cs
  have hro : ({ G with ds := ds } : Glob).ro = none := hR.1.1
  rw [hro]
  obtain ⟨w', hw', hs⟩ := leave_marks (P := P) ds { bf none f a (.code .ret :: k) with mode := .returning } cs w rfl ha.2 ⟨H', hw.ent he, rfl⟩
  exact ⟨_, w', _, hR.2 _ _ w' hpost (by have := hw'.ent he2; exact this), Steps.trans (.one (stepR_ret rfl)) hs, rfl, rfl, rfl, rfl, fn, hf, hres a w' ha.1 hw'⟩
theorem run_cell {P : Program} {U : Tr} [hU : TabOk P U] {n : Nat} {L : Lst} {a : Act} {p b : Nat} {t e : TypeId} {ty' : Ty} {u : Value} {G : Glob} {w : World} {H : List HP} (i : Nat) (ha : Has n L a) (hw : Sat G w H)
    (hp : fget L p = some (.pointer (some ⟨b, 0, none⟩))) (ht : U.get t = some ty') (hg : ty'.isAgg = false) (hi : getL H i = some (pts b (cl [u] e))) : (resF a.tmps (.cell p t)).run P w = .ok u w := by
  have hc : w.cell? ⟨b, 0, none⟩ = some u := by rw [cell_of_block (hw.getP hi)]; rfl
  have hld := run_loadAt (P := P) (w := w) ht hg hc
  have g1 : a.tmps.getD p undef = .pointer (some ⟨b, 0, none⟩) := by simp [Array.getD_eq_getD_getElem?, ha.2.2 p _ hp]
  simp only [resF, g1, asAddr, Sem.run_bind, Sem.run_pure, Result.andThen_ok]
  simpa [Instr.loadAt, Instr.sureAddr] using hld
/-- Both results in cells of one value each; marks of ranges are let go. -/
theorem K_returnCC {P : Program} {U : Tr} [hU : TabOk P U] {f : FuncId} {n : Nat} {R : Ending → World → Prop} {G : Glob} {ds : List Nat} {k k0 : List Item} {L : Lst} {H H' : List HP} {fn : Func} {F : List HP} {Post : Value → List HP → Prop} {p q b1 b2 : Nat} {t1 t2 e1 e2 : TypeId} {ty1 ty2 : Ty} {u1 u2 : Value} {Hq : List HP} (i j : Nat)
    (hR : Ends R G F Post) (hf : P.funcs[f]? = some fn) (hk : advK 1000 k0 = .mk (.code .ret :: k)) (hfr : fn.results.toList = [.cell p t1, .cell q t2])
    (hp : fget L p = some (.pointer (some ⟨b1, 0, none⟩))) (hq : fget L q = some (.pointer (some ⟨b2, 0, none⟩))) (ht1 : U.get t1 = some ty1) (hg1 : ty1.isAgg = false) (ht2 : U.get t2 = some ty2) (hg2 : ty2.isAgg = false)
    (he : Ent H (ds.map (fun r => pts r (.deferred (some []))) ++ H')) (hi : getL H' i = some (pts b1 (cl [u1] e1))) (hj : getL H' j = some (pts b2 (cl [u2] e2))) (hpost : Post (.tuple #[u1, u2]) Hq) (he2 : Ent H' (Hq ++ F)) : K P f n R { G with ds := ds } k0 L H := by
  refine K_retW hR hf hk he (fun a w ha hw => ?_) hpost he2
  have h1 := run_cell (P := P) i ha hw hp ht1 hg1 hi
  have h2 := run_cell (P := P) j ha hw hq ht2 hg2 hj
  rw [results_eq, Array.mapM_eq_mapM_toList, hfr]
  simp only [Sem.run_bind, Sem.run_map, List.mapM_cons, List.mapM_nil, h1, h2, Sem.run_pure, Result.andThen_ok]
  simp
theorem K_noMarks {P : Program} {f : FuncId} {n : Nat} {R : Ending → World → Prop} {G : Glob} {k : List Item} {L : Lst} {H F : List HP} {Post : Value → List HP → Prop} (hE : Ends R G F Post) (h : K P f n R { G with ds := [] } k L H) : K P f n R G k L H := by
  have : ({ G with ds := [] } : Glob) = G := by have := hE.1.2; cases G; simp_all
  rw [this] at h
  exact h
/-- The statement, its end told over the loop's record as a function of its state. -/
theorem K_rangeP {P : Program} {f : FuncId} {n : Nat} {R : Ending → World → Prop} {G : Glob} {k : List Item} {L : Lst} {H : List HP} {ps : Array Tmp} {assign body : Code} {k0 : List Item} {g : Operand} {gid : FuncId} {cap : Array Value} {Pre : Nat → Nat → List HP} {Fr : List HP}
    (Post : Nat → Nat → (LoopState → Option Code → HP) → Value → List HP → Prop) (hk : advK 1000 k0 = .mk (.code (.rangeFunc g ps assign body) :: k)) (hro : G.ro = none)
    (hg : ev L g = some (.func (.func gid) #[] cap))
    (c : ∀ l r, Ctr P gid (.func (.yield l) #[] #[] :: cap.toList) (loopP l .ready none f n L ps assign body r :: Pre l r) (Post l r (fun st pd => loopP l st pd f n L ps assign body r))) (he : ∀ l r, Ent H (Pre l r ++ Fr))
    (hend : ∀ l r v H', Post l r (fun st pd => loopP l st pd f n L ps assign body r) v H' → ∃ st pd H'', H' = loopP l st pd f n L ps assign body r :: H'' ∧ st ≠ .busy ∧
      K P f n R { G with ds := r :: G.ds } ((pd.map Item.code).toList ++ k) L (H'' ++ (pts r (.deferred (some [])) :: Fr))) : K P f n R G k0 L H :=
  K_range hk hro hg c he hend
theorem K_slcVw {P : Program} {f : FuncId} {n : Nat} {R : Ending → World → Prop} {G : Glob} {k : List Item} {L : Lst} {H : List HP} {e : TypeId} {sz nn : Nat} {v : Value} {cs : List Value} (i : Nat) (hi : getL H i = some (slc e sz v nn cs))
    (h : Vw (slc e sz v nn cs) v nn cs → K P f n R G k L H) : K P f n R G k L H :=
  K_sat fun ⟨w, hw⟩ => by
    obtain ⟨h1, _, hA⟩ := hw.getA hi
    exact h (Vw.of_slc e sz v nn cs ⟨h1, hA⟩)
theorem slc_cap {e : TypeId} {sz nn c : Nat} {a : Option Addr} {cs : List Value} {h : Hp} (hs : slc e sz (.slice a nn c) nn cs h) : nn ≤ c := by
  obtain ⟨_, ⟨a', hv, hn, _⟩ | ⟨b, o, cap, pre, junk, hv, hp, hn, hc, _⟩⟩ := hs
  · omega
  · simp only [Value.slice.injEq] at hv; omega
theorem K_slcVC {P : Program} {f : FuncId} {n : Nat} {R : Ending → World → Prop} {G : Glob} {k : List Item} {L : Lst} {H : List HP} {e : TypeId} {sz nn c : Nat} {a : Option Addr} {cs : List Value} (i : Nat) (hi : getL H i = some (slc e sz (.slice a nn c) nn cs))
    (h : Vw (slc e sz (.slice a nn c) nn cs) (.slice a nn c) nn cs → nn ≤ c → K P f n R G k L H) : K P f n R G k L H :=
  K_sat fun ⟨w, hw⟩ => by
    obtain ⟨h1, _, hA⟩ := hw.getA hi
    exact h (Vw.of_slc e sz _ nn cs ⟨h1, hA⟩) (slc_cap hA)
theorem J_slcVC {P : Program} {f : FuncId} {n : Nat} {R : Ending → World → Prop} {G : Glob} {k : List Item} {L : Lst} {H : List HP} {S : World → Prop} {all : Array Oper} {rest : Pl} {e : TypeId} {sz nn c : Nat} {a : Option Addr} {cs : List Value} (i : Nat) (hi : getL H i = some (slc e sz (.slice a nn c) nn cs))
    (h : Vw (slc e sz (.slice a nn c) nn cs) (.slice a nn c) nn cs → nn ≤ c → J P f n R G S all rest k L H) : J P f n R G S all rest k L H :=
  J_sat fun w hw => by
    obtain ⟨h1, _, hA⟩ := hw.getA hi
    exact h (Vw.of_slc e sz _ nn cs ⟨h1, hA⟩) (slc_cap hA)
end Go.SL

/- draw: Shuffle, Sample. -/
set_option linter.unusedVariables false
set_option linter.unusedSimpArgs false
namespace Go.Proofs.Ythcjmhlmoamjpaa
open Go Go.SL
def swapL (l : List Int) (i k : Nat) : List Int := (l.set i (l.getD k 0)).set k (l.getD i 0)
theorem swapL_len (l : List Int) (i k : Nat) : (swapL l i k).length = l.length := by simp [swapL]
theorem swapL_perm {l : List Int} {i k : Nat} (hi : i < l.length) (hk : k < l.length) : (swapL l i k).Perm l := by
  unfold swapL
  rw [List.getD_eq_getElem?_getD, List.getD_eq_getElem?_getD, List.getElem?_eq_getElem hi, List.getElem?_eq_getElem hk, Option.getD_some, Option.getD_some]
  exact List.set_set_perm hi hk
def shufL : Nat → Int → List Int → Int × List Int
  | 0, s, l => (s, l)
  | i + 1, s, l => shufL i (nextS s) (swapL l (i + 1) (belowN (mixV (nextS s)).toNat (i + 2)))
theorem below_lt (s : Int) (n : Nat) (h : 0 < n) : belowN (mixV (nextS s)).toNat n < n := by
  have := mixV_range (nextS s)
  exact belowN_lt (by omega) h
theorem shufL_perm : ∀ (i : Nat) (s : Int) (l : List Int), i < l.length → (shufL i s l).2.Perm l
  | 0, s, l, _ => List.Perm.refl _
  | i + 1, s, l, h => by
    rw [shufL]
    have hk := below_lt s (i + 2) (by omega)
    exact (shufL_perm i _ _ (by rw [swapL_len]; omega)).trans (swapL_perm h (by omega))
def shufA (s : Int) (l : List Int) : Int × List Int := shufL (l.length - 1) s l
theorem shufA_perm (s : Int) (l : List Int) : (shufA s l).2.Perm l := by
  unfold shufA
  cases l with
  | nil => exact List.Perm.refl _
  | cons x l => exact shufL_perm _ _ _ (by simp)
attribute [local irreducible] J K Ctr Ends pts slc mapR mapI sbRow stock arrS loopP CtrY

set_option maxRecDepth 20000 in
theorem Shuffle_any (b : Nat) (s : Int) (A : HP) (v : Value) (l : List Int) (hv : Vw A v l.length (iV l)) (hl : l.length ≤ 1000000000) :
    Ctr Try.prog 36 [ptr b, v] [pts b (cl [.int .u64 s] 89), A] (fun r H => H = [slc 3 1 r (shufA s l).2.length (iV (shufA s l).2), pts b (cl [.int .u64 (shufA s l).1] 89), A]) := by
  obtain ⟨a, c, rfl⟩ := hv.shape
  refine Ctr.enter Try.func36 (by kernel_rfl) rfl Try.ntmps36 rfl rfl ?_
  intro G F R hE
  (refine go ?_)
  (first | refine J_callE rfl rfl rfl rfl (Clone_int A _ l hv (by omega)) entA ?_ (fun _ _ _ _ _ => trivial) | refine J_call0E rfl rfl rfl (Clone_int A _ l hv (by omega)) entA ?_ (fun _ _ _ _ _ => trivial) | (refine go ?_; first | refine J_callE rfl rfl rfl rfl (Clone_int A _ l hv (by omega)) entA ?_ (fun _ _ _ _ _ => trivial) | refine J_call0E rfl rfl rfl (Clone_int A _ l hv (by omega)) entA ?_ (fun _ _ _ _ _ => trivial)))
  rintro r _ rfl
  (first | refine J_shape 0 rfl ?_ | refine K_shape 0 rfl ?_)
  rintro ra rc rfl
  (refine go ?_)
  (first | refine J_slot 6 ((.int .i64 (if l.length = 0 then -1 else ((l.length - 1 : Nat) : Int)))) rfl ((congrArg (Value.int .i64) (by split <;> omega))) ?_ | refine K_slot 6 ((.int .i64 (if l.length = 0 then -1 else ((l.length - 1 : Nat) : Int)))) rfl ((congrArg (Value.int .i64) (by split <;> omega))) ?_)
  refine K_loop (fun y : Nat × Int × List Int => y.2.2.length = l.length ∧ (l.length = 0 → y.1 = 0) ∧ (0 < l.length → y.1 < l.length) ∧ shufL y.1 y.2.1 y.2.2 = shufA s l) (fun y => y.1)
    (fun y => [(0, ptr b), (5, .slice ra l.length rc), (6, .int .i64 (if l.length = 0 then -1 else (y.1 : Int)))])
    (fun y => slc 3 1 (.slice ra l.length rc) l.length (iV y.2.2) :: pts b (cl [.int .u64 y.2.1] 89) :: A :: F) (l.length - 1, s, l) ⟨rfl, by simp only; omega, by simp only; omega, rfl⟩ rfl (by repeat (first | exact keep_nil | refine keep_cons rfl ?_)) entA ?_
  rintro ⟨i, s1, l1⟩ ⟨hl1, hi0, hi, hsh⟩ ih
  simp only at hl1 hi0 hi hsh
  (refine go ?_)
  refine K_condP rfl rfl ?_ ?_
  case' refine_2 =>
    intro hge
    simp only at hge
    have hz : i = 0 := by
      by_cases h : l.length = 0
      · exact hi0 h
      · rw [if_neg h] at hge; omega
    subst hz
    have hsh : shufA s l = (s1, l1) := hsh.symm
    rw [hsh] at hE
    rw [← hl1]
    (refine go ?_)
    (first | refine K_return hE Try.func36 rfl _ rfl rfl entA | refine K_fallEnd hE Try.func36 rfl _ rfl rfl entA)
  intro hgt
  simp only at hgt
  have hne : l.length ≠ 0 := by intro h; rw [if_pos h] at hgt; omega
  rw [if_neg hne] at hgt ⊢
  obtain ⟨i, rfl⟩ : ∃ j, i = j + 1 := ⟨i - 1, by omega⟩
  have hil := hi (by omega)
  have hk := below_lt s1 (i + 2) (by omega)
  have hBe := Below_any b s1 (i + 2) (by omega)
  obtain ⟨k, hkd⟩ : ∃ k, k = belowN (mixV (nextS s1)).toNat (i + 2) := ⟨_, rfl⟩
  rw [← hkd] at hk hBe
  have hsh2 : shufL i (nextS s1) (swapL l1 (i + 1) k) = shufA s l := by rw [← hsh, shufL, hkd]
  obtain ⟨x, hx⟩ : ∃ x, l1[i + 1]? = some x := ⟨l1[i + 1]'(by omega), by simp⟩
  obtain ⟨y, hy⟩ : ∃ y, l1[k]? = some y := ⟨l1[k]'(by omega), by simp⟩
  have hsw : swapL l1 (i + 1) k = (l1.set (i + 1) y).set k x := by
    unfold swapL
    rw [List.getD_eq_getElem?_getD, List.getD_eq_getElem?_getD, hx, hy]; rfl
  (refine go ?_)
  (first | refine J_slot 20 ((.int .u64 ((i + 2 : Nat) : Int))) rfl ((congrArg (Value.int .u64) (by simp only; omega))) ?_ | refine K_slot 20 ((.int .u64 ((i + 2 : Nat) : Int))) rfl ((congrArg (Value.int .u64) (by simp only; omega))) ?_)
  (first | refine J_callE rfl rfl rfl rfl (hBe) entA ?_ (fun _ _ _ _ _ => trivial) | refine J_call0E rfl rfl rfl (hBe) entA ?_ (fun _ _ _ _ _ => trivial) | (refine go ?_; first | refine J_callE rfl rfl rfl rfl (hBe) entA ?_ (fun _ _ _ _ _ => trivial) | refine J_call0E rfl rfl rfl (hBe) entA ?_ (fun _ _ _ _ _ => trivial)))
  rintro _ _ ⟨rfl, rfl⟩
  (refine go ?_)
  refine K_ent (Ent.pick [1] rfl) ?_
  refine K_slcVw 0 rfl ?_
  intro hvw
  obtain ⟨b3, o3, c3, hs3⟩ := hvw.some (ine (l := l1) (i := i + 1) (by omega))
  simp only [Value.slice.injEq, true_and] at hs3
  obtain ⟨rfl, rfl⟩ := hs3
  refine K_drawA (fun w => Sat G w ([])) (.st 0 (.st 1 (.st 2 (.st 3 (.st 4 (.st 5 (.st 6 (.st 8 (.st 9 (.st 10 (.fork (.act 7 (.act 11 (.st 12 (.act 13 (.st 14 (.act 15 .nil)))))) (.act 11 (.act 7 (.st 12 (.act 13 (.st 14 (.act 15 .nil))))))))))))))))) rfl (by kernel_rfl) (by kernel_rfl) (by kernel_rfl) (fun w hw => hw.ent entA) ?_
  (refine go ?_)
  refine J_at1 (U := tab) k rfl rfl rfl rfl rfl rfl rfl rfl (by omega) ?_
  (refine go ?_)
  refine J_at1 (U := tab) (i + 1) rfl rfl rfl rfl rfl rfl rfl rfl (by omega) ?_
  refine J_fork ?_ ?_
  · (refine go ?_)
    refine J_isLoad ?_
    refine J_loadAt (U := tab) 0 k rfl rfl rfl hvw rfl (iV_get hy) rfl rfl ?_
    (refine go ?_)
    refine J_isLoad ?_
    refine J_loadAt (U := tab) 0 (i + 1) rfl rfl rfl hvw rfl (iV_get hx) rfl rfl ?_
    (refine go ?_)
    refine J_at1 (U := tab) (i + 1) rfl rfl rfl rfl rfl rfl rfl rfl (by omega) ?_
    (refine go ?_)
    refine J_isStore ?_
    refine J_storeSlc (U := tab) (q := i + 1) 0 (fun w hw => hw.ent entA) rfl rfl rfl rfl rfl rfl rfl (by omega) rfl ?_
    (refine go ?_)
    refine J_at1 (U := tab) k rfl rfl rfl rfl rfl rfl rfl rfl (by omega) ?_
    (refine go ?_)
    refine J_isStore ?_
    refine J_storeSlc (U := tab) (q := k) 0 (fun _ _ => trivial) rfl rfl rfl rfl rfl rfl rfl (by omega) rfl ?_
    rw [show ((iV l1).set (i + 1) (.int .i64 y)).set k (.int .i64 x) = iV (swapL l1 (i + 1) k) from by rw [hsw]; simp [iV, List.map_set]]
    (refine go ?_)
    (first | refine J_slot 6 ((.int .i64 (if l.length = 0 then -1 else (i : Int)))) rfl ((congrArg (Value.int .i64) (by rw [if_neg hne]; simp only; omega))) ?_ | refine K_slot 6 ((.int .i64 (if l.length = 0 then -1 else (i : Int)))) rfl ((congrArg (Value.int .i64) (by rw [if_neg hne]; simp only; omega))) ?_)
    refine K_again ih (i, nextS s1, swapL l1 (i + 1) k) rfl ⟨by rw [swapL_len]; exact hl1, fun h => absurd h hne, fun _ => by simp only; omega, hsh2⟩ (by simp only; omega) (by repeat (first | exact keep_nil | refine keep_cons rfl ?_)) entA
  · (refine go ?_)
    refine J_isLoad ?_
    refine J_loadAt (U := tab) 0 (i + 1) rfl rfl rfl hvw rfl (iV_get hx) rfl rfl ?_
    (refine go ?_)
    refine J_isLoad ?_
    refine J_loadAt (U := tab) 0 k rfl rfl rfl hvw rfl (iV_get hy) rfl rfl ?_
    (refine go ?_)
    refine J_at1 (U := tab) (i + 1) rfl rfl rfl rfl rfl rfl rfl rfl (by omega) ?_
    (refine go ?_)
    refine J_isStore ?_
    refine J_storeSlc (U := tab) (q := i + 1) 0 (fun w hw => hw.ent entA) rfl rfl rfl rfl rfl rfl rfl (by omega) rfl ?_
    (refine go ?_)
    refine J_at1 (U := tab) k rfl rfl rfl rfl rfl rfl rfl rfl (by omega) ?_
    (refine go ?_)
    refine J_isStore ?_
    refine J_storeSlc (U := tab) (q := k) 0 (fun _ _ => trivial) rfl rfl rfl rfl rfl rfl rfl (by omega) rfl ?_
    rw [show ((iV l1).set (i + 1) (.int .i64 y)).set k (.int .i64 x) = iV (swapL l1 (i + 1) k) from by rw [hsw]; simp [iV, List.map_set]]
    (refine go ?_)
    (first | refine J_slot 6 ((.int .i64 (if l.length = 0 then -1 else (i : Int)))) rfl ((congrArg (Value.int .i64) (by rw [if_neg hne]; simp only; omega))) ?_ | refine K_slot 6 ((.int .i64 (if l.length = 0 then -1 else (i : Int)))) rfl ((congrArg (Value.int .i64) (by rw [if_neg hne]; simp only; omega))) ?_)
    refine K_again ih (i, nextS s1, swapL l1 (i + 1) k) rfl ⟨by rw [swapL_len]; exact hl1, fun h => absurd h hne, fun _ => by simp only; omega, hsh2⟩ (by simp only; omega) (by repeat (first | exact keep_nil | refine keep_cons rfl ?_)) entA
end Go.Proofs.Ythcjmhlmoamjpaa

/- member, plain: what views know, as numbers; hearing is a maximum. -/
set_option linter.unusedVariables false
set_option linter.unusedSimpArgs false
namespace Go.Proofs.Ythcjmhlmoamjpaa
open Go Go.SL
def cdM (x : Mem) : Int := x.inc * 4 + x.st
def code (V : VM) (id : Int) : Int := match findM V.ks id with
  | some x => cdM x
  | none => 0
/-- What may be said, among so many. -/
structure OkM (U : List Int) (x : Mem) : Prop where
  u : x.id ∈ U
  id1 : 1 ≤ x.id
  id2 : x.id ≤ 65536
  inc1 : 0 ≤ x.inc
  inc2 : x.inc ≤ 1073741824
  st1 : 1 ≤ x.st
  st2 : x.st ≤ 2
  slf : 65534 ≤ x.id → x.inc = 0 ∧ x.st = 1
structure GV (U : List Int) (V : VM) : Prop where
  nd : (V.ks.map Mem.id).Nodup
  ok : ∀ x ∈ V.ks, OkM U x
  sid : 65534 ≤ V.self.id
  sok : OkM U V.self
  most : V.most = 64
theorem nodup_sub : ∀ (l U : List Int), l.Nodup → (∀ x ∈ l, x ∈ U) → l.length ≤ U.length
  | [], U, _, _ => Nat.zero_le _
  | x :: l, U, hn, hs => by
    rw [List.nodup_cons] at hn
    have hx := hs x (List.mem_cons_self ..)
    have h1 := nodup_sub l (U.erase x) hn.2 (fun y hy => (List.mem_erase_of_ne (fun e => hn.1 (by rw [← e]; exact hy))).2 (hs y (List.mem_cons_of_mem _ hy)))
    have h2 := List.length_erase_of_mem hx
    have h3 := List.length_pos_of_mem hx
    rw [List.length_cons]; omega
theorem GV.len {U : List Int} {V : VM} (h : GV U V) : V.ks.length ≤ U.length := by
  have := nodup_sub _ U h.nd (fun x hx => by obtain ⟨y, hy, rfl⟩ := List.mem_map.1 hx; exact (h.ok y hy).u)
  rwa [List.length_map] at this
theorem findM_some {ks : List Mem} {id : Int} {x : Mem} (h : findM ks id = some x) : x ∈ ks ∧ x.id = id := by
  unfold findM at h
  exact ⟨List.mem_of_find?_eq_some h, by simpa using List.find?_some h⟩
theorem findM_none {ks : List Mem} {id : Int} : findM ks id = none ↔ id ∉ ks.map Mem.id := by
  unfold findM
  rw [List.find?_eq_none]
  constructor
  · intro h hm
    obtain ⟨x, hx, rfl⟩ := List.mem_map.1 hm
    exact absurd (h x hx) (by simp)
  · intro h x hx
    simp only [decide_eq_true_eq]
    exact fun e => h (List.mem_map.2 ⟨x, hx, e⟩)
theorem findM_mem {ks : List Mem} (hn : (ks.map Mem.id).Nodup) {x : Mem} (hx : x ∈ ks) : findM ks x.id = some x := by
  induction ks with
  | nil => cases hx
  | cons y ks ih =>
    rw [List.map_cons, List.nodup_cons] at hn
    unfold findM
    rw [List.find?_cons]
    rcases List.mem_cons.1 hx with rfl | hx
    · simp
    · have hne : y.id ≠ x.id := fun e => hn.1 (e ▸ List.mem_map.2 ⟨x, hx, rfl⟩)
      simp only [hne, decide_false]
      exact ih hn.2 hx
theorem setM_ids (ks : List Mem) (m : Mem) : (setM ks m).map Mem.id = if m.id ∈ ks.map Mem.id then ks.map Mem.id else ks.map Mem.id ++ [m.id] := by
  unfold setM
  split
  · rw [List.map_map]
    apply List.map_congr_left
    intro x hx
    simp only [Function.comp]
    split
    · rename_i h; rw [h]
    · rfl
  · simp
theorem setM_mem {ks : List Mem} {m x : Mem} (h : x ∈ setM ks m) : x = m ∨ x ∈ ks := by
  unfold setM at h
  split at h
  · obtain ⟨y, hy, rfl⟩ := List.mem_map.1 h
    split
    · exact .inl rfl
    · exact .inr hy
  · rcases List.mem_append.1 h with h | h
    · exact .inr h
    · exact .inl (List.mem_singleton.1 h)
theorem setM_find (ks : List Mem) (m : Mem) (id : Int) : findM (setM ks m) id = if m.id = id then some m else findM ks id := by
  unfold setM
  by_cases hm : m.id ∈ ks.map Mem.id
  · rw [if_pos hm]
    unfold findM
    induction ks with
    | nil => simp at hm
    | cons y ks ih =>
      rw [List.map_cons, List.find?_cons, List.find?_cons]
      by_cases hy : y.id = m.id
      · rw [if_pos hy]
        by_cases hid : m.id = id
        · simp [hid]
        · have : y.id ≠ id := fun e => hid (hy ▸ e)
          simp only [hid, this, decide_false, if_false]
          clear ih hm
          induction ks with
          | nil => rfl
          | cons z ks ih =>
            rw [List.map_cons, List.find?_cons, List.find?_cons]
            by_cases hz : z.id = m.id
            · rw [if_pos hz]
              have : z.id ≠ id := fun e => hid (hz ▸ e)
              simp only [hid, this, decide_false]
              exact ih
            · rw [if_neg hz]
              split
              · rfl
              · exact ih
      · rw [if_neg hy]
        have hm2 : m.id ∈ ks.map Mem.id := by
          rw [List.map_cons, List.mem_cons] at hm
          exact hm.resolve_left fun e => hy e.symm
        by_cases hyi : y.id = id
        · have : m.id ≠ id := fun e => hy (hyi.trans e.symm)
          simp [hyi, this]
        · simp only [hyi, decide_false]
          exact ih hm2
  · rw [if_neg hm]
    unfold findM
    rw [List.find?_append]
    by_cases hid : m.id = id
    · have : ks.find? (fun x => decide (x.id = id)) = none := findM_none.2 (hid ▸ hm)
      rw [this, if_pos hid]
      simp [hid]
    · rw [if_neg hid]
      simp [hid]
theorem newer_cd {m o : Mem} (h1 : 1 ≤ m.st ∧ m.st ≤ 3) (h2 : 1 ≤ o.st ∧ o.st ≤ 3) : newerA m o = true ↔ cdM o < cdM m := by
  rw [newerA_iff]; unfold cdM; omega
theorem OkM.hear {U : List Int} {m : Mem} (h : OkM U m) : okHear m 1 = true := by
  have := h.id1; have := h.id2; have := h.inc1; have := h.inc2; have := h.st1; have := h.st2
  unfold okHear
  rw [inA_iff.2 ⟨h.id1, h.id2⟩, inA_iff.2 ⟨h.inc1, h.inc2⟩, inA_iff.2 ⟨h.st1, by omega⟩]; rfl
theorem OkM.since {U : List Int} {m : Mem} (h : OkM U m) (n : Int) : OkM U { m with since := n } := ⟨h.u, h.id1, h.id2, h.inc1, h.inc2, h.st1, h.st2, h.slf⟩
/-- Hearing: what is known of each one is the most. -/
theorem GV.hear {U : List Int} {V : VM} {m : Mem} (h : GV U V) (hm : OkM U m) :
    GV U (hearA V m 1).2 ∧ (hearA V m 1).2.self = V.self ∧ ∀ id, id < 65534 → code (hearA V m 1).2 id = if m.id = id then max (code V id) (cdM m) else code V id := by
  have hok := hm.hear
  unfold hearA
  rw [if_neg (by rw [hok]; simp)]
  have hmc : 1 ≤ cdM m := by have := hm.inc1; have := hm.st1; unfold cdM; omega
  by_cases hself : m.id = V.self.id
  · rw [if_pos hself]
    have h1 := hm.slf (by rw [hself]; exact h.sid)
    have h2 := h.sok.slf h.sid
    have hn : ¬ newerA m V.self = true := by rw [newerA_iff]; omega
    rw [if_neg hn]
    refine ⟨h, rfl, fun id hid => ?_⟩
    rw [if_neg]
    have := h.sid; omega
  · rw [if_neg hself]
    have hset : ∀ (hcode : ∀ id, id < 65534 → m.id = id → max (code V id) (cdM m) = cdM m),
        GV U { V with ks := setM V.ks { m with since := 1 } } ∧ ∀ id, id < 65534 → code { V with ks := setM V.ks { m with since := 1 } } id = if m.id = id then max (code V id) (cdM m) else code V id := by
      intro hcode
      refine ⟨⟨?_, ?_, h.sid, h.sok, h.most⟩, fun id hid => ?_⟩
      · show ((setM V.ks { m with since := 1 }).map Mem.id).Nodup
        rw [setM_ids]
        split
        · exact h.nd
        · rename_i hno
          rw [List.nodup_append]
          refine ⟨h.nd, by simp, ?_⟩
          rintro a ha b hb rfl
          simp at hb
          exact hno (hb ▸ ha)
      · intro x hx
        rcases setM_mem hx with rfl | hx
        · exact hm.since 1
        · exact h.ok x hx
      · unfold code
        show (match findM (setM V.ks { m with since := 1 }) id with | some x => cdM x | none => 0) = _
        rw [setM_find]
        by_cases hid2 : m.id = id
        · rw [if_pos hid2, if_pos hid2]
          have := hcode id hid hid2
          unfold code at this
          rw [this]; rfl
        · rw [if_neg hid2, if_neg hid2]
    cases hf : findM V.ks m.id with
    | none =>
      simp only
      rw [if_neg (by have := hm.st2; omega)]
      obtain ⟨h1, h2⟩ := hset (fun id hid he => by
        subst he
        unfold code
        rw [hf]
        simp only; omega)
      exact ⟨h1, rfl, h2⟩
    | some o =>
      obtain ⟨ho1, ho2⟩ := findM_some hf
      have hoo := h.ok o ho1
      have hnc := newer_cd (m := m) (o := o) ⟨hm.st1, by have := hm.st2; omega⟩ ⟨hoo.st1, by have := hoo.st2; omega⟩
      simp only
      by_cases hn : newerA m o = true
      · rw [if_pos hn]
        obtain ⟨h1, h2⟩ := hset (fun id hid he => by
          subst he
          unfold code
          rw [hf]
          have := hnc.1 hn
          simp only; omega)
        exact ⟨h1, rfl, h2⟩
      · rw [if_neg hn]
        refine ⟨h, rfl, fun id hid => ?_⟩
        by_cases hid2 : m.id = id
        · rw [if_pos hid2]
          subst hid2
          have : ¬ cdM o < cdM m := fun hh => hn (hnc.2 hh)
          unfold code
          rw [hf]
          simp only; omega
        · rw [if_neg hid2]
/-- All that one knows, told to another one. -/
def hearAll (V : VM) : List Mem → VM
  | [] => V
  | m :: l => hearAll (hearA V m 1).2 l
def best (l : List Mem) (id : Int) : Int := match l with
  | [] => 0
  | m :: l => if m.id = id then max (cdM m) (best l id) else best l id
theorem code_nonneg {U : List Int} {V : VM} (h : GV U V) (id : Int) : 0 ≤ code V id := by
  unfold code
  cases hf : findM V.ks id with
  | none => simp
  | some x => have h1 := h.ok x (findM_some hf).1; have := h1.inc1; have := h1.st1; unfold cdM; simp only; omega
theorem GV.hearAll {U : List Int} : ∀ (l : List Mem) {V : VM}, GV U V → (∀ m ∈ l, OkM U m) → GV U (hearAll V l) ∧ (Go.Proofs.Ythcjmhlmoamjpaa.hearAll V l).self = V.self ∧ ∀ id, id < 65534 → code (Go.Proofs.Ythcjmhlmoamjpaa.hearAll V l) id = max (code V id) (best l id)
  | [], V, h, _ => ⟨h, rfl, fun id _ => by have := code_nonneg h id; simp only [Go.Proofs.Ythcjmhlmoamjpaa.hearAll, best]; omega⟩
  | m :: l, V, h, hl => by
    obtain ⟨h1, h2, h3⟩ := h.hear (hl m (List.mem_cons_self ..))
    obtain ⟨h4, h5, h6⟩ := GV.hearAll l h1 fun x hx => hl x (List.mem_cons_of_mem _ hx)
    refine ⟨h4, h5.trans h2, fun id hid => ?_⟩
    have e1 := h6 id hid
    have e2 := h3 id hid
    simp only [Go.Proofs.Ythcjmhlmoamjpaa.hearAll, best]
    rw [e1, e2]
    split <;> omega
theorem best_not {l : List Mem} {id : Int} (h : id ∉ l.map Mem.id) : best l id = 0 := by
  induction l with
  | nil => rfl
  | cons m l ih =>
    rw [List.map_cons, List.mem_cons, not_or] at h
    rw [best, if_neg (fun e => h.1 e.symm), ih h.2]
theorem best_one {l : List Mem} {m : Mem} (hn : (l.map Mem.id).Nodup) (hm : m ∈ l) (h0 : 0 ≤ cdM m) : best l m.id = cdM m := by
  induction l with
  | nil => cases hm
  | cons x l ih =>
    rw [List.map_cons, List.nodup_cons] at hn
    rcases List.mem_cons.1 hm with rfl | hm
    · rw [best, if_pos rfl, best_not hn.1]; omega
    · have : x.id ≠ m.id := fun e => hn.1 (e ▸ List.mem_map.2 ⟨m, hm, rfl⟩)
      rw [best, if_neg this, ih hn.2 hm]
theorem best_app (a b : List Mem) (id : Int) (h : ∀ x ∈ b, x.id ≠ id) : best (a ++ b) id = best a id := by
  induction a with
  | nil =>
    rw [List.nil_append]
    exact best_not (fun hm => by obtain ⟨x, hx, he⟩ := List.mem_map.1 hm; exact h x hx he)
  | cons x a ih => rw [List.cons_append, best, best, ih]
end Go.Proofs.Ythcjmhlmoamjpaa

/- member, plain: what a view tells. -/
set_option linter.unusedVariables false
set_option linter.unusedSimpArgs false
namespace Go.Proofs.Ythcjmhlmoamjpaa
open Go Go.SL
def risI (l : List Int) : List Int := l.mergeSort fun x y => decide (x ≤ y)
theorem risI_len (l : List Int) : (risI l).length = l.length := List.length_mergeSort _
theorem risI_perm (l : List Int) : (risI l).Perm l := List.mergeSort_perm l _
theorem risI_sorted (l : List Int) : (risI l).Pairwise (· ≤ ·) := by
  have := List.pairwise_mergeSort (le := fun x y : Int => decide (x ≤ y)) (fun a b c h1 h2 => by simp at *; omega) (fun a b => by simp; omega) l
  exact this.imp (by simp)
theorem risI_eq {a b : List Int} (h : a.Perm b) : risI a = risI b :=
  List.Perm.eq_of_pairwise (fun x y _ _ h1 h2 => Int.le_antisymm h1 h2) (risI_sorted a) (risI_sorted b) ((risI_perm a).trans (h.trans (risI_perm b).symm))
def cutN (k : Int) (n : Nat) : Nat := (max 0 (min k (n : Int))).toNat
def sampA (s : Int) (l : List Int) (k : Int) : List Int := (shufA s l).2.take (cutN k l.length)
def gossipA (V : VM) (most seed : Int) : List Mem := (sampA seed (risI (V.ks.map Mem.id)) most).map (fun id => (findM V.ks id).getD ⟨0, 0, 0, 0⟩) ++ [V.self]
theorem shufA_len (s : Int) (l : List Int) : (shufA s l).2.length = l.length := (shufA_perm s l).length_eq
theorem sampA_len (s : Int) (l : List Int) (k : Int) : (sampA s l k).length = cutN k l.length := by
  unfold sampA cutN
  rw [List.length_take, shufA_len]; omega
theorem sampA_all (s : Int) (l : List Int) (h : l.length ≤ 64) : (sampA s l 64).Perm l := by
  unfold sampA
  rw [List.take_of_length_le (by rw [shufA_len]; unfold cutN; omega)]
  exact shufA_perm s l
/-- What is told: each that is known, once, and itself. -/
theorem gossip_ok {U : List Int} {V : VM} (h : GV U V) (hu : U.length ≤ 60) :
    (gossipA V 64 5).length = V.ks.length + 1 ∧ (∀ m ∈ gossipA V 64 5, OkM U m) ∧ ∀ id, id < 65534 → best (gossipA V 64 5) id = code V id := by
  have hlen := h.len
  have hp : (sampA 5 (risI (V.ks.map Mem.id)) 64).Perm (V.ks.map Mem.id) := (sampA_all 5 _ (by rw [risI_len, List.length_map]; omega)).trans (risI_perm _)
  obtain ⟨ids, hids⟩ : ∃ ids, ids = sampA 5 (risI (V.ks.map Mem.id)) 64 := ⟨_, rfl⟩
  rw [← hids] at hp
  have hg : gossipA V 64 5 = ids.map (fun id => (findM V.ks id).getD ⟨0, 0, 0, 0⟩) ++ [V.self] := by rw [hids]; rfl
  have hfind : ∀ id ∈ ids, ∃ x ∈ V.ks, x.id = id ∧ findM V.ks id = some x := fun id hid => by
    obtain ⟨x, hx, rfl⟩ := List.mem_map.1 (hp.mem_iff.1 hid)
    exact ⟨x, hx, rfl, findM_mem h.nd hx⟩
  have hidmap : (ids.map (fun id => (findM V.ks id).getD ⟨0, 0, 0, 0⟩)).map Mem.id = ids := by
    rw [List.map_map]
    conv => rhs; rw [← List.map_id ids]
    refine List.map_congr_left fun id hid => ?_
    obtain ⟨x, hx, hxi, hf⟩ := hfind id hid
    simp only [Function.comp, hf, Option.getD_some, hxi]; rfl
  refine ⟨by rw [hg, List.length_append, List.length_map, hp.length_eq, List.length_map]; rfl, fun m hm => ?_, fun id hid => ?_⟩
  · rw [hg] at hm
    rcases List.mem_append.1 hm with hm | hm
    · obtain ⟨id, hid, rfl⟩ := List.mem_map.1 hm
      obtain ⟨x, hx, hxi, hf⟩ := hfind id hid
      rw [hf]; exact h.ok x hx
    · rw [List.mem_singleton.1 hm]; exact h.sok
  · rw [hg, best_app _ _ _ (fun x hx => by rw [List.mem_singleton.1 hx]; have := h.sid; omega)]
    by_cases hin : id ∈ ids
    · obtain ⟨x, hx, hxi, hf⟩ := hfind id hin
      have hok := h.ok x hx
      have hmem : x ∈ ids.map (fun id => (findM V.ks id).getD ⟨0, 0, 0, 0⟩) := List.mem_map.2 ⟨id, hin, by rw [hf]; rfl⟩
      have hb := best_one (l := ids.map (fun id => (findM V.ks id).getD ⟨0, 0, 0, 0⟩)) (m := x) (by rw [hidmap]; exact hp.nodup_iff.2 h.nd) hmem (by have := hok.inc1; have := hok.st1; unfold cdM; omega)
      rw [hxi] at hb
      rw [hb]
      unfold code
      rw [hf]
    · rw [best_not (by rw [hidmap]; exact hin)]
      unfold code
      rw [findM_none.2 (fun hh => hin (hp.mem_iff.2 hh))]
def noSince (l : List Mem) : List Mem := l.map fun x => { x with since := 0 }
theorem best_noSince (l : List Mem) (id : Int) : best (noSince l) id = best l id := by
  unfold noSince
  induction l with
  | nil => rfl
  | cons x l ih => rw [List.map_cons, best, best, ih]; rfl
/-- A view behind another one's telling. -/
def tellA (Va Vb : VM) : VM := hearAll Vb (noSince (gossipA Va 64 5))
theorem GV.tell {U : List Int} {Va Vb : VM} (ha : GV U Va) (hb : GV U Vb) (hu : U.length ≤ 60) : GV U (tellA Va Vb) ∧ ∀ id, id < 65534 → code (tellA Va Vb) id = max (code Vb id) (code Va id) := by
  obtain ⟨-, g2, g3⟩ := gossip_ok ha hu
  obtain ⟨h1, -, h3⟩ := GV.hearAll (noSince (gossipA Va 64 5)) hb (fun m hm => by
    obtain ⟨x, hx, rfl⟩ := List.mem_map.1 hm
    exact (g2 x hx).since 0)
  refine ⟨h1, fun id hid => ?_⟩
  have := h3 id hid
  rw [best_noSince, g3 id hid] at this
  exact this
/-- The message that is told is right. -/
def gossipMsg (l : List Mem) : Msg := { Msg.zero with kind := 8, mems := l }
theorem gossip_right {U : List Int} {l : List Mem} (h : ∀ m ∈ l, OkM U m) (h1 : 1 ≤ l.length) (h2 : l.length ≤ 65) : rightA (gossipMsg (noSince l)) = true := by
  have hl : (noSince l).length = l.length := List.length_map _
  have h7 : fitsA (gossipMsg (noSince l)) 7 = true := by
    show (inA (noSince l).length 1 65 && !(noSince l).any oddMem) = true
    rw [inA_iff.2 ⟨by rw [hl]; omega, by rw [hl]; omega⟩, Bool.true_and, Bool.not_eq_true', List.any_eq_false]
    intro x hx
    obtain ⟨y, hy, rfl⟩ := List.mem_map.1 hx
    have ho := h y hy
    have e1 := ho.id1; have e2 := ho.id2; have e3 := ho.inc1; have e4 := ho.inc2; have e5 := ho.st1; have e6 := ho.st2
    simp only [oddMem, oddId, inA, Bool.or_eq_true, Bool.not_eq_true', Bool.and_eq_false_iff, decide_eq_true_eq, decide_eq_false_iff_not]
    omega
  have hk : (gossipMsg (noSince l)).kind = 8 := rfl
  unfold rightA okItem
  rw [hk]
  simp only [show hasA 8 = [1, 7] from rfl]
  rw [show fitsA (gossipMsg (noSince l)) 1 = true from rfl, h7]
  rfl
end Go.Proofs.Ythcjmhlmoamjpaa

/- Engine, part Vi: the library's sort at numbers, by the shelf's contracts. Nothing here names a program. -/
set_option linter.unusedSimpArgs false
set_option linter.unusedVariables false
set_option linter.unusedSectionVars false
namespace Go.SL
open Go.Proofs Go.Shelf Go.RowKit Go.Lib Go.Sort
theorem Sat.grown {G : Glob} {w : World} {H : List HP} (hs : Sat G w H) (os : Array Obj) : Sat G (Sort.grow w os) H := by
  obtain ⟨a, b, c, h, hw, hh⟩ := hs
  refine ⟨a, b, c, h, fun x o e => ?_, hh⟩
  have h1 := hw x o e
  obtain ⟨h2, -⟩ := Array.getElem?_eq_some_iff.1 h1
  show (w.heap ++ os)[x]? = some o
  rw [Array.getElem?_append_left h2]
  exact h1
theorem Sat.ahead {G : Glob} {w : World} {H : List HP} (hs : Sat G w H) (n : Nat) : Sat G (Sort.ahead w n) H := hs.draw _ (Nat.le_add_right _ _)
theorem Sat.mapB {G : Glob} {w : World} {H : List HP} {b : Nat} {l l' : List Value} {e : TypeId} (hs : Sat G w (pts b (cl l e) :: H)) (f : Array Value → Array Value) (hf : f l.toArray = l'.toArray) : Sat G (Sort.mapBlock w b f) (pts b (cl l' e) :: H) := by
  have hb := hs.get (i := 0) rfl
  obtain ⟨hlt, hb2⟩ := Array.getElem?_eq_some_iff.1 hb
  have hm : w.heap.modify b (Sort.onCells f) = w.heap.setIfInBounds b (cl l' e) := by
    apply Array.ext_getElem?
    intro i
    rw [Array.getElem?_modify, Array.getElem?_setIfInBounds]
    by_cases h : b = i
    · subst h
      rw [if_pos rfl, if_pos rfl, if_pos hlt, hb]
      simp only [Option.map_some]
      unfold cl Sort.onCells
      simp only [hf]
    · rw [if_neg h, if_neg h]
  unfold Sort.mapBlock
  rw [hm]
  exact hs.set0
/-- Where all that was stands, the world has but grown. -/
theorem grow_of_old {W W' : World} (h : Sat { tape := W.tape, os := W.os, output := W.output, lo := W.drawn } W' [old W]) : ∃ q os', W' = Sort.grow (W.drewN q) os' := by
  obtain ⟨⟨h1, h2⟩, h3, h4, h0, hw, hs⟩ := h
  have ho := Sep_one hs
  have hb : ∀ k, k < W.heap.size → W'.heap[k]? = W.heap[k]? := fun k hk => by
    have e : W.heap[k]? = some W.heap[k] := by simp [hk]
    rw [e]
    exact hw k _ (by rw [ho k, e])
  have hle : W.heap.size ≤ W'.heap.size := by
    rcases Nat.eq_zero_or_pos W.heap.size with h0 | h0
    · omega
    · have := hb (W.heap.size - 1) (by omega)
      have e : W.heap[W.heap.size - 1]? = some W.heap[W.heap.size - 1] := by simp [h0]
      rw [e] at this
      have := (Array.getElem?_eq_some_iff.1 this).1
      omega
  refine ⟨W'.drawn - W.drawn, W'.heap.extract W.heap.size W'.heap.size, ?_⟩
  have hheap : W'.heap = W.heap ++ W'.heap.extract W.heap.size W'.heap.size := by
    apply Array.ext_getElem?
    intro i
    rw [Array.getElem?_append]
    split
    · rename_i hi; exact hb i hi
    · rename_i hi
      rw [Array.getElem?_extract]
      split
      · rename_i h; congr 1; omega
      · rename_i h; rw [Array.getElem?_eq_none (by omega)]
  have hd : W'.drawn = W.drawn + (W'.drawn - W.drawn) := by simp only at h2; omega
  cases W' with
  | mk hp tp dr os out =>
    simp only at h1 h2 h3 h4 hheap hd
    subst h1 h3 h4
    unfold Sort.grow World.drewN
    simp only
    rw [← hd, ← hheap]
variable {P : Program} {ρ : Ren} {α : Type} [Inhabited α]
theorem putCells_mid (pre cs cs' junk : List Value) (hl : cs'.length = cs.length) : Sort.putCells id pre.length cs'.toArray (pre ++ cs ++ junk).toArray = (pre ++ cs' ++ junk).toArray := by
  apply Array.ext_getElem?
  intro i
  unfold Sort.putCells
  rw [Array.getElem?_mapIdx]
  simp only [List.getElem?_toArray, id, List.size_toArray]
  rcases Nat.lt_or_ge i pre.length with h | h
  · rw [List.append_assoc, List.append_assoc, List.getElem?_append_left h, List.getElem?_append_left h]
    cases pre[i]? with
    | none => rfl
    | some x => simp only [Option.map_some]; rw [if_neg (by omega)]
  · rw [List.append_assoc, List.append_assoc, List.getElem?_append_right h, List.getElem?_append_right h]
    rcases Nat.lt_or_ge (i - pre.length) cs'.length with h2 | h2
    · rw [List.getElem?_append_left (by omega), List.getElem?_append_left h2, List.getElem?_eq_getElem (by omega), List.getElem?_eq_getElem h2]
      simp only [Option.map_some]
      rw [if_pos ⟨h, by omega⟩, getElem!_pos _ _ (by simpa using h2)]
      simp
    · rw [List.getElem?_append_right (by omega), List.getElem?_append_right h2, hl]
      cases junk[i - pre.length - cs.length]? with
      | none => rfl
      | some x => simp only [Option.map_some]; rw [if_neg (by omega)]
theorem holds_mid {w : World} {b : Nat} {e : TypeId} {pre cs junk : List Value} (hb : w.heap[b]? = some (cl (pre ++ cs ++ junk) e)) : Sort.Holds id w b pre.length cs.toArray := by
  intro j hj
  simp only [List.size_toArray] at hj
  constructor
  · unfold World.cell?
    simp only [hb, cl, Option.isSome_none, Bool.false_eq_true, if_false, List.getElem?_toArray]
    rw [List.append_assoc, List.getElem?_append_right (by omega), Nat.add_sub_cancel_left, List.getElem?_append_left hj, getElem!_pos _ _ (by simpa using hj), List.getElem?_eq_getElem hj]
    simp
  · unfold World.frozen?
    simp only [hb, cl]
    simp

theorem sortInt_ctr (L : SlLaysN.n53 P ρ) (e : TypeId) (v : Value) (l : List Int) (hen : P.funcs[ρ.f 53]?.map callable = some true) (hsz : l.length < 4611686018427387904) :
    Ctr P (ρ.f 53) [v] [slc e 1 v l.length (l.map (Value.int .i64))] (fun r H => r = .tuple #[] ∧ H = [slc e 1 v l.length ((l.mergeSort fun x y => decide (x ≤ y)).map (Value.int .i64))]) := by
  refine ⟨hen, fun G w F hs => ?_⟩
  obtain ⟨t, o, u, hp, hpw, hA, hB, ⟨hl, hcase⟩, hBB, hd, he⟩ := hs
  rcases hcase with ⟨a0, rfl, hn, hemp⟩ | ⟨b, oo, cap, pre, junk, rfl, hpre, hn, hcap, hpt⟩
  · have hl0 : l = [] := List.eq_nil_of_length_eq_zero hn
    subst hl0
    refine (AnyG.slices_Sort_int_none L a0 0 w).mono ?_
    rintro e' w' ⟨rfl, rfl⟩
    exact ⟨_, _, rfl, ⟨rfl, rfl⟩, t, o, u, hp, hpw, hA, hB, ⟨by simp, .inl ⟨a0, rfl, rfl, hemp⟩⟩, hBB, hd, he⟩
  · have hs1 : Sat G w (pts b (cl (pre ++ l.map (Value.int .i64) ++ junk) e) :: F) := ⟨t, o, u, hp, hpw, hA, hB, hpt, hBB, hd, he⟩
    have hb := hs1.get (i := 0) rfl
    have hlt := hs1.lt (i := 0) rfl
    subst hpre
    have hH : Sort.Holds (Value.int .i64) w b pre.length l.toArray := by
      have h0 := holds_mid hb
      intro j hj
      have := h0 j (by simpa using hj)
      simp only [List.size_toArray] at hj
      rw [getElem!_pos (l.map (Value.int .i64)).toArray j (by simpa using hj)] at this
      rw [getElem!_pos l.toArray j (by simpa using hj)]
      simpa using this
    have hS := AnyG.slices_Sort_int L b pre.length cap l w hH hlt hsz
    refine hS.mono ?_
    rintro e' w' ⟨rfl, n, os, rfl⟩
    refine ⟨_, _, rfl, ⟨rfl, rfl⟩, ?_⟩
    have hml : (l.mergeSort fun x y => decide (x ≤ y)).length = l.length := List.length_mergeSort _
    have h3 := (hs1.ahead n).mapB (Sort.putCells (Value.int .i64) pre.length (l.mergeSort fun x y => decide (x ≤ y)).toArray) (l' := pre ++ (l.mergeSort fun x y => decide (x ≤ y)).map (Value.int .i64) ++ junk) (by
      refine Eq.trans ?_ (putCells_mid pre (l.map (Value.int .i64)) ((l.mergeSort fun x y => decide (x ≤ y)).map (Value.int .i64)) junk (by rw [List.length_map, List.length_map, hml]))
      unfold Sort.putCells
      congr 1
      funext i x
      simp only [List.size_toArray, List.length_map, id]
      split
      · rename_i h
        rw [getElem!_pos (List.map (Value.int .i64) _).toArray (i - pre.length) (by simp; omega), getElem!_pos (l.mergeSort fun x y => decide (x ≤ y)).toArray (i - pre.length) (by simp; omega)]
        simp
      · rfl)
    have h4 := h3.grown os
    refine h4.ent ?_
    exact slc_closeN rfl hn (by rw [List.length_map] at hcap ⊢; rw [hml]; exact hcap) (by rw [List.length_map, hml, Nat.mul_one]) F
end Go.SL

/- The shelf's contracts laid at this seat (numbers as the kit's own command finds them). -/
namespace Go.Proofs.Ythcjmhlmoamjpaa
open Go Go.Shelf
def sortI_ren : Go.Shelf.Ren := ⟨fun | 53 => 38 | 64 => 51 | 63 => 50 | 78 => 75 | 79 => 76 | 70 => 66 | 71 => 67 | 72 => 68 | 73 => 69 | 74 => 70 | 75 => 71 | 59 => 72 | 76 => 73 | 77 => 74 | 88 => 79 | 89 => 80 | 90 => 81 | 91 => 82 | 92 => 83 | 68 => 33 | 96 => 84 | n => n, fun | 22 => 52 | 23 => 3 | 3 => 3 | 51 => 104 | 0 => 0 | 67 => 127 | 69 => 46 | 4 => 4 | 61 => 120 | 60 => 119 | 44 => 83 | 5 => 5 | 9 => 9 | 75 => 131 | 79 => 134 | 83 => 136 | 84 => 137 | n => n, fun | n => n⟩
theorem sortI : Go.Proofs.SlLaysN.n53 Try.prog sortI_ren := {
  mixed := by kernel_rfl,
  f53 := ⟨Try.f38.name, by decide, Try.func38.trans (congrArg some (by kernel_rfl))⟩,
  f59 := ⟨Try.f72.name, by decide, Try.func72.trans (congrArg some (by kernel_rfl))⟩,
  f63 := ⟨Try.f50.name, by decide, Try.func50.trans (congrArg some (by kernel_rfl))⟩,
  f64 := Try.func51.trans (congrArg some (by kernel_rfl)),
  f68 := ⟨Try.f33.name, by decide, Try.func33.trans (congrArg some (by kernel_rfl))⟩,
  f70 := ⟨Try.f66.name, by decide, Try.func66.trans (congrArg some (by kernel_rfl))⟩,
  f71 := ⟨Try.f67.name, by decide, Try.func67.trans (congrArg some (by kernel_rfl))⟩,
  f72 := ⟨Try.f68.name, by decide, Try.func68.trans (congrArg some (by kernel_rfl))⟩,
  f73 := ⟨Try.f69.name, by decide, Try.func69.trans (congrArg some (by kernel_rfl))⟩,
  f74 := ⟨Try.f70.name, by decide, Try.func70.trans (congrArg some (by kernel_rfl))⟩,
  f75 := ⟨Try.f71.name, by decide, Try.func71.trans (congrArg some (by kernel_rfl))⟩,
  f76 := ⟨Try.f73.name, by decide, Try.func73.trans (congrArg some (by kernel_rfl))⟩,
  f77 := ⟨Try.f74.name, by decide, Try.func74.trans (congrArg some (by kernel_rfl))⟩,
  f78 := Try.func75.trans (congrArg some (by kernel_rfl)),
  f79 := Try.func76.trans (congrArg some (by kernel_rfl)),
  f88 := ⟨Try.f79.name, by decide, Try.func79.trans (congrArg some (by kernel_rfl))⟩,
  f89 := Try.func80.trans (congrArg some (by kernel_rfl)),
  f90 := Try.func81.trans (congrArg some (by kernel_rfl)),
  f91 := ⟨Try.f82.name, by decide, Try.func82.trans (congrArg some (by kernel_rfl))⟩,
  f92 := ⟨Try.f83.name, by decide, Try.func83.trans (congrArg some (by kernel_rfl))⟩,
  f96 := ⟨Try.f84.name, by decide, Try.func84.trans (congrArg some (by kernel_rfl))⟩,
  t0 := Try.underlying0,
  a0 := Try.isAgg0,
  z0 := Try.sizeOf0,
  v0 := Try.zeroValue0,
  t3 := Try.underlying3,
  a3 := Try.isAgg3,
  z3 := Try.sizeOf3,
  v3 := Try.zeroValue3,
  t4 := Try.underlying4,
  a4 := Try.isAgg4,
  z4 := Try.sizeOf4,
  v4 := Try.zeroValue4,
  t5 := Try.underlying5,
  a5 := Try.isAgg5,
  z5 := Try.sizeOf5,
  v5 := Try.zeroValue5,
  t9 := Try.underlying9,
  a9 := Try.isAgg9,
  z9 := Try.sizeOf9,
  v9 := Try.zeroValue9,
  t22 := Try.underlying52,
  a22 := Try.isAgg52,
  z22 := Try.sizeOf52,
  v22 := Try.zeroValue52,
  t23 := Try.underlying3,
  a23 := Try.isAgg3,
  z23 := Try.sizeOf3,
  v23 := Try.zeroValue3,
  t44 := Try.underlying83,
  a44 := Try.isAgg83,
  z44 := Try.sizeOf83,
  v44 := Try.zeroValue83,
  t51 := Try.underlying104,
  a51 := Try.isAgg104,
  z51 := Try.sizeOf104,
  v51 := Try.zeroValue104,
  t60 := Try.underlying119,
  a60 := Try.isAgg119,
  z60 := Try.sizeOf119,
  v60 := Try.zeroValue119,
  t61 := Try.underlying120,
  a61 := Try.isAgg120,
  z61 := Try.sizeOf120,
  v61 := Try.zeroValue120,
  t67 := Try.underlying127,
  a67 := Try.isAgg127,
  z67 := Try.sizeOf127,
  v67 := Try.zeroValue127,
  t69 := Try.underlying46,
  a69 := Try.isAgg46,
  z69 := Try.sizeOf46,
  v69 := Try.zeroValue46,
  t75 := Try.underlying131,
  a75 := Try.isAgg131,
  z75 := Try.sizeOf131,
  v75 := Try.zeroValue131,
  t79 := Try.underlying134,
  a79 := Try.isAgg134,
  z79 := Try.sizeOf134,
  v79 := Try.zeroValue134,
  t83 := Try.underlying136,
  a83 := Try.isAgg136,
  z83 := Try.sizeOf136,
  v83 := Try.zeroValue136,
  t84 := Try.underlying137,
  a84 := Try.isAgg137,
  z84 := Try.sizeOf137,
  v84 := Try.zeroValue137 }
end Go.Proofs.Ythcjmhlmoamjpaa

/- member, part b: the keys of a map of members, rising; a list in another order. -/
set_option linter.unusedVariables false
set_option linter.unusedSimpArgs false
namespace Go.Proofs.Ythcjmhlmoamjpaa
open Go Go.SL
theorem nodup_len2I {l r : List Int} (hl : l.Nodup) (hr : r.Nodup) (h : ∀ n, n ∈ l ↔ n ∈ r) : l.length = r.length := ((List.perm_ext_iff_of_nodup hl hr).2 h).length_eq
attribute [local irreducible] J K Ctr Ends pts slc mapR mapI sbRow stock arrS loopP CtrY viewH II

theorem mKeys_any (bm : Nat) : Ctr Try.prog 25 [.map (some bm)] [] (fun r H => ∃ bx, r = .func (.func 39) #[] #[ptr bx] ∧ H = [pts bx (cl [.map (some bm)] 40)]) := by
  refine Ctr.enter Try.func25 (by kernel_rfl) rfl Try.ntmps25 rfl rfl ?_
  intro G F R hE
  (refine go ?_)
  refine J_box rfl rfl (fun _ _ _ => trivial) ?_
  intro bx
  (refine go ?_)
  (first | refine K_return hE Try.func25 rfl _ rfl ⟨bx, rfl, rfl⟩ entA | refine K_fallEnd hE Try.func25 rfl _ rfl ⟨bx, rfl, rfl⟩ entA)
theorem mKeys1_any (bx bm : Nat) (es : List (Int × Value)) (hnd : (es.map (·.1)).Nodup) :
    IterI 39 [ptr bx] es.length [pts bx (cl [.map (some bm)] 40), mapR (Value.int .i64) bm es] [mapR (Value.int .i64) bm es] (fun xs => xs.Perm (es.map (·.1))) := by
  intro l Lp Inv hy
  refine Ctr.enter Try.func39 (by kernel_rfl) rfl Try.ntmps39 rfl rfl ?_
  intro G F R hE
  refine K_ent (Ent.pick [3, 0, 2] rfl) ?_
  (refine go ?_)
  refine J_range (kv := Value.int .i64) (es := es) (U := tab) 0 rfl rfl rfl rfl rfl (fun _ => rfl) (fun _ _ _ => trivial) ?_
  intro it
  (refine go ?_)
  refine K_loop (fun s : List Int => s.Nodup ∧ ∀ x ∈ s, x ∈ es.map (·.1)) (fun s => es.length - s.length) (fun s => [(0, .func (.yield l) #[] #[]), (5, .pointer (some ⟨it, 0, none⟩))])
    (fun s => mapI (Value.int .i64) bm it es s :: Lp :: pts bx (cl [.map (some bm)] 40) :: Inv s.reverse :: F) [] ⟨List.nodup_nil, by simp⟩ rfl (by repeat (first | exact keep_nil | refine keep_cons rfl ?_)) entA ?_
  rintro dn ⟨hdn, hsub⟩ ih
  (refine go ?_)
  refine J_next (kv := Value.int .i64) (es := es) 0 rfl kIntM.inj rfl rfl (fun _ => rfl) (fun _ _ => trivial) (fun _ _ _ => trivial) ?_ ?_
  · intro hall
    (refine go ?_)
    refine K_ent (Ent.head (B := [mapR (Value.int .i64) bm es]) (fun h hs => by obtain ⟨h', s, hm⟩ := mapI_mapR h hs; exact ⟨h', s, Sep_one' hm⟩)) ?_
    have hp : dn.reverse.Perm (es.map (·.1)) := (List.reverse_perm dn).trans ((List.perm_ext_iff_of_nodup hdn hnd).2 fun a => ⟨hsub a, fun h => by obtain ⟨y, hy, rfl⟩ := List.mem_map.1 h; exact hall y hy⟩)
    (first | refine K_return hE Try.func39 rfl _ rfl ⟨_, hp, rfl⟩ entA | refine K_fallEnd hE Try.func39 rfl _ rfl ⟨_, hp, rfl⟩ entA)
  · intro key v hmem hnot
    have hk : key ∈ es.map (·.1) := List.mem_map.2 ⟨_, hmem, rfl⟩
    have hlt : dn.length < es.length := by
      have h1 : ((List.filter (fun x => decide (x ∈ dn)) (es.map (·.1)))).length ≤ (es.map (·.1)).length := List.length_filter_le _ _
      have h2 : dn.length = (List.filter (fun x => decide (x ∈ dn)) (es.map (·.1))).length := nodup_len2I hdn (hnd.sublist List.filter_sublist) (fun n => by
        simp only [List.mem_filter, decide_eq_true_eq]
        exact ⟨fun h => ⟨hsub n h, h⟩, fun h => h.2⟩)
      rw [List.length_map] at h1
      rcases Nat.lt_or_ge dn.length es.length with h | h
      · exact h
      · exfalso
        have h3 : (List.filter (fun x => decide (x ∈ dn)) (es.map (·.1))).length = (es.map (·.1)).length := by rw [List.length_map]; omega
        have h4 := List.filter_eq_self.1 ((List.filter_sublist (p := fun x => decide (x ∈ dn)) (l := es.map (·.1))).eq_of_length h3) key hk
        exact hnot (of_decide_eq_true h4)
    (refine go ?_)
    refine J_entry (kv := Value.int .i64) (es := es) 0 rfl kIntM.inj rfl rfl hmem ?_
    (refine go ?_)
    refine J_yield rfl rfl rfl (hy dn.reverse key (by rw [List.length_reverse]; exact hlt)) entA ?_ (fun _ _ _ _ _ => trivial)
    rintro _ _ ⟨rfl, rfl⟩
    rw [show dn.reverse ++ [key] = (key :: dn).reverse from by simp]
    (refine go ?_)
    refine K_again ih (key :: dn) rfl (⟨List.nodup_cons.2 ⟨hnot, hdn⟩, fun x hx => by rcases List.mem_cons.1 hx with rfl | h; exact hk; exact hsub x h⟩) (by show _ - (key :: dn).length < _; simp only [List.length_cons]; omega) (by repeat (first | exact keep_nil | refine keep_cons rfl ?_)) entA
theorem SortI_any (v : Value) (l : List Int) (hl : l.length ≤ 1000000000) : Ctr Try.prog 38 [v] [slc 3 1 v l.length (iV l)] (fun r H => r = .tuple #[] ∧ H = [slc 3 1 v l.length (iV (risI l))]) :=
  sortInt_ctr (ρ := sortI_ren) sortI 3 v l (by kernel_rfl) (by omega)
theorem SortedI_any (g : FuncId) (cap : List Value) (N : Nat) (Pre Post : List HP) (Q : List Int → Prop) (hN : N ≤ 1000000000) (hi : IterI g cap N Pre Post Q) (hQ : ∀ xs, Q xs → xs.length ≤ 1000000000) :
    Ctr Try.prog 24 [.func (.func g) #[] cap.toArray] Pre (fun r H => ∃ xs, Q xs ∧ H = slc 3 1 r xs.length (iV (risI xs)) :: Post) := by
  refine Ctr.enter Try.func24 (by kernel_rfl) rfl Try.ntmps24 rfl rfl ?_
  intro G F R hE
  (refine go ?_)
  (first | refine J_callE rfl rfl rfl rfl (CollectI_any g cap N Pre Post Q hN hi) entA ?_ (fun _ _ _ _ _ => trivial) | refine J_call0E rfl rfl rfl (CollectI_any g cap N Pre Post Q hN hi) entA ?_ (fun _ _ _ _ _ => trivial) | (refine go ?_; first | refine J_callE rfl rfl rfl rfl (CollectI_any g cap N Pre Post Q hN hi) entA ?_ (fun _ _ _ _ _ => trivial) | refine J_call0E rfl rfl rfl (CollectI_any g cap N Pre Post Q hN hi) entA ?_ (fun _ _ _ _ _ => trivial)))
  rintro w _ ⟨xs, hq, rfl⟩
  (first | refine J_shape 0 rfl ?_ | refine K_shape 0 rfl ?_)
  rintro wa wc rfl
  (refine go ?_)
  (first | refine J_callE rfl rfl rfl rfl (SortI_any (.slice wa xs.length wc) xs (hQ xs hq)) entA ?_ (fun _ _ _ _ _ => trivial) | refine J_call0E rfl rfl rfl (SortI_any (.slice wa xs.length wc) xs (hQ xs hq)) entA ?_ (fun _ _ _ _ _ => trivial) | (refine go ?_; first | refine J_callE rfl rfl rfl rfl (SortI_any (.slice wa xs.length wc) xs (hQ xs hq)) entA ?_ (fun _ _ _ _ _ => trivial) | refine J_call0E rfl rfl rfl (SortI_any (.slice wa xs.length wc) xs (hQ xs hq)) entA ?_ (fun _ _ _ _ _ => trivial)))
  rintro _ _ ⟨rfl, rfl⟩
  (refine go ?_)
  (first | refine K_return hE Try.func24 rfl _ rfl ⟨xs, hq, rfl⟩ entA | refine K_fallEnd hE Try.func24 rfl _ rfl ⟨xs, hq, rfl⟩ entA)
end Go.Proofs.Ythcjmhlmoamjpaa

/- wire, part a: what a message may be. -/
set_option linter.unusedVariables false
set_option linter.unusedSimpArgs false
namespace Go.Proofs.Ythcjmhlmoamjpaa
open Go Go.SL
/-- A message's slices. -/
structure MV where
  i : Value
  b : Value
  p : Value
  m : Value
def mC (v : MV) (m : Msg) : List Value := .int .i64 m.kind :: (dC m.hash ++ [.int .i64 m.piece, v.i, v.b, v.p, v.m, .bool m.seed])
structure MsgAt (X : HP) (v : MV) (m : Msg) : Prop where
  vi : Vw X v.i m.ids.length (iV m.ids)
  vb : BAt X v.b m.bytes
  vp : Vw X v.p m.proof.length (m.proof.flatMap dC)
  vm : Vw X v.m m.mems.length (m.mems.flatMap mmC)
  li : m.ids.length ≤ 1000000000
  lb : m.bytes.length ≤ 1000000000
  lp : m.proof.length ≤ 1000000000
  lm : m.mems.length ≤ 1000000000
theorem MsgAt.mono {A B : HP} {v : MV} {m : Msg} (h : MsgAt A v m) (hAB : ∀ h, B h → ∃ h', sub h' h ∧ A h') : MsgAt B v m :=
  ⟨h.vi.mono hAB, h.vb.mono hAB, h.vp.mono hAB, h.vm.mono hAB, h.li, h.lb, h.lp, h.lm⟩
theorem slc_row1 (e : TypeId) (b : Nat) (cs : List Value) (H : List HP) : Ent (pts b (cl cs e) :: H) (slc e 1 (.slice (some ⟨b, 0, none⟩) cs.length cs.length) cs.length cs :: H) := by
  have h := slc_row e 1 b cs.length cs.length cs [] H (by omega) (Nat.le_refl _) (by simp)
  rw [List.append_nil] at h
  exact h
theorem eqD (a b : Dg) (w : World) : (Op.equal 51 (.agg (dC a).toArray) (.agg (dC b).toArray)).run Try.prog w = .ok (decide (a = b)) w :=
  run_equalD Try.underlying51 Try.underlying5 (by kernel_rfl) a b 9998 w
theorem guD : Try.prog.eqGuardType Try.prog.depth 51 = false := by kernel_rfl
attribute [local irreducible] J K Ctr Ends pts slc mapR mapI sbRow stock arrS loopP CtrY

theorem within_any (n lo hi : Int) : Ctr Try.prog 54 [.int .i64 n, .int .i64 lo, .int .i64 hi] [] (fun r H => r = .bool (inA n lo hi) ∧ H = []) := by
  refine Ctr.enter Try.func54 (by kernel_rfl) rfl Try.ntmps54 rfl rfl ?_
  intro G F R hE
  repeat' (first | (with_reducible intro _hh) | refine go1 ?_ | refine J_fork ?_ ?_ | refine J_gsP rfl rfl rfl rfl ?_ ?_ | refine K_condP rfl rfl ?_ ?_)
  · (first | refine K_return hE Try.func54 rfl _ rfl ⟨(by unfold inA; rw [decide_eq_true (show lo ≤ n from _hh), Bool.true_and]; rfl), rfl⟩ entA | refine K_fallEnd hE Try.func54 rfl _ rfl ⟨(by unfold inA; rw [decide_eq_true (show lo ≤ n from _hh), Bool.true_and]; rfl), rfl⟩ entA)
  · (first | refine K_return hE Try.func54 rfl _ rfl ⟨(by unfold inA; rw [decide_eq_false (show ¬ lo ≤ n from _hh), Bool.false_and]; rfl), rfl⟩ entA | refine K_fallEnd hE Try.func54 rfl _ rfl ⟨(by unfold inA; rw [decide_eq_false (show ¬ lo ≤ n from _hh), Bool.false_and]; rfl), rfl⟩ entA)
theorem has_any (k : Int) : Ctr Try.prog 27 [.int .i64 k] [] (fun r H => H = [slc 3 1 r (hasA k).length (iV (hasA k))]) := by
  refine Ctr.enter Try.func27 (by kernel_rfl) rfl Try.ntmps27 rfl rfl ?_
  intro G F R hE
  by_cases hk : 1 ≤ k ∧ k ≤ 11
  · have hk : k = 1 ∨ k = 2 ∨ k = 3 ∨ k = 4 ∨ k = 5 ∨ k = 6 ∨ k = 7 ∨ k = 8 ∨ k = 9 ∨ k = 10 ∨ k = 11 := by omega
    rcases hk with rfl | rfl | rfl | rfl | rfl | rfl | rfl | rfl | rfl | rfl | rfl
    all_goals (
      (refine go ?_)
      refine J_buildSlice1 (U := tab) rfl rfl rfl rfl rfl rfl rfl rfl rfl (fun _ _ _ => trivial) ?_
      intro b
      (refine go ?_)
      refine K_ent (slc_row1 3 b _ _) ?_
      (first | refine K_return hE Try.func27 rfl _ rfl rfl entA | refine K_fallEnd hE Try.func27 rfl _ rfl rfl entA))
  · have hn : hasA k = [] := by
      unfold hasA
      rw [if_neg (by omega), if_neg (by omega), if_neg (by omega), if_neg (by omega), if_neg (by omega), if_neg (by omega), if_neg (by omega)]
    rw [hn] at hE
    refine K_ent (slc_lift 3 1 none _) ?_
    repeat' (first | (with_reducible intro _hh) | refine go1 ?_ | refine J_fork ?_ ?_ | refine J_gsP rfl rfl rfl rfl ?_ ?_ | refine K_condP rfl rfl ?_ ?_)
    all_goals first | (exfalso; omega) | skip
    (first | refine K_return hE Try.func27 rfl _ rfl rfl entA | refine K_fallEnd hE Try.func27 rfl _ rfl rfl entA)
theorem most_any (k : Int) : Ctr Try.prog 57 [.int .i64 k] [] (fun r H => r = .int .i64 (mostA k) ∧ H = []) := by
  refine Ctr.enter Try.func57 (by kernel_rfl) rfl Try.ntmps57 rfl rfl ?_
  intro G F R hE
  by_cases h1 : k = 1
  · subst h1; (refine go ?_); (first | refine K_return hE Try.func57 rfl _ rfl ⟨rfl, rfl⟩ entA | refine K_fallEnd hE Try.func57 rfl _ rfl ⟨rfl, rfl⟩ entA)
  by_cases h2 : k = 4
  · subst h2; (refine go ?_); (first | refine K_return hE Try.func57 rfl _ rfl ⟨rfl, rfl⟩ entA | refine K_fallEnd hE Try.func57 rfl _ rfl ⟨rfl, rfl⟩ entA)
  by_cases h3 : k = 10
  · subst h3; (refine go ?_); (first | refine K_return hE Try.func57 rfl _ rfl ⟨rfl, rfl⟩ entA | refine K_fallEnd hE Try.func57 rfl _ rfl ⟨rfl, rfl⟩ entA)
  have hn : mostA k = 0 := by unfold mostA; rw [if_neg h1, if_neg h2, if_neg h3]
  rw [hn] at hE
  repeat' (first | (with_reducible intro _hh) | refine go1 ?_ | refine J_fork ?_ ?_ | refine J_gsP rfl rfl rfl rfl ?_ ?_ | refine K_condP rfl rfl ?_ ?_)
  all_goals first | (exfalso; omega) | skip
  (first | refine K_return hE Try.func57 rfl _ rfl ⟨rfl, rfl⟩ entA | refine K_fallEnd hE Try.func57 rfl _ rfl ⟨rfl, rfl⟩ entA)
set_option maxRecDepth 20000 in
theorem bare_any (X : HP) (v : MV) (m : Msg) (hm : MsgAt X v m) (i : Int) (hi : 1 ≤ i ∧ i ≤ 8) : Ctr Try.prog 42 [.agg (mC v m).toArray, .int .i64 i] [X] (fun r H => r = .bool (bareA m i) ∧ H = [X]) := by
  obtain ⟨vi, vb, vp, vm⟩ := v
  obtain ⟨ia, ic, rfl⟩ := hm.vi.shape
  obtain ⟨ba, bc, rfl, _⟩ := hm.vb.2
  obtain ⟨pa, pc, rfl⟩ := hm.vp.shape
  obtain ⟨ma, mc, rfl⟩ := hm.vm.shape
  have hi : i = 1 ∨ i = 2 ∨ i = 3 ∨ i = 4 ∨ i = 5 ∨ i = 6 ∨ i = 7 ∨ i = 8 := by omega
  refine Ctr.enter Try.func42 (by kernel_rfl) rfl Try.ntmps42 rfl rfl ?_
  intro G F R hE
  refine K_regionA rfl ?_
  refine J_box rfl rfl (fun _ _ _ => trivial) ?_
  intro bx
  rcases hi with rfl | rfl | rfl | rfl | rfl | rfl | rfl | rfl
  · (refine go ?_); (first | refine K_return hE Try.func42 rfl _ rfl ⟨rfl, rfl⟩ entA | refine K_fallEnd hE Try.func42 rfl _ rfl ⟨rfl, rfl⟩ entA)
  · (refine go ?_)
    refine J_loadAgg (U := tab) 0 rfl rfl rfl rfl rfl rfl ?_
    (refine go ?_)
    refine J_build0 (U := tab) rfl rfl rfl rfl rfl ?_
    refine J_eqAgg (b := decide (m.hash = Dg.zero)) rfl rfl rfl guD (fun w => eqD m.hash Dg.zero w) ?_
    (refine go ?_)
    (first | refine K_return hE Try.func42 rfl _ rfl ⟨rfl, rfl⟩ entA | refine K_fallEnd hE Try.func42 rfl _ rfl ⟨rfl, rfl⟩ entA)
  all_goals (
    (refine go ?_)
    (first | refine K_return hE Try.func42 rfl _ rfl ⟨rfl, rfl⟩ entA | refine K_fallEnd hE Try.func42 rfl _ rfl ⟨rfl, rfl⟩ entA))
end Go.Proofs.Ythcjmhlmoamjpaa

/- wire, part b: what fits; Right. -/
set_option linter.unusedVariables false
set_option linter.unusedSimpArgs false
namespace Go.Proofs.Ythcjmhlmoamjpaa
open Go Go.SL
attribute [local irreducible] J K Ctr Ends pts slc mapR mapI sbRow stock arrS loopP CtrY
def mV (l : List Mem) : List Value := l.flatMap mmC
theorem mV_eq (l : List Mem) : mV l = l.flatMap mmC := rfl
theorem mV_len (l : List Mem) : (mV l).length = l.length * 4 := chunk_len mmC_len l
theorem mV_one (l : List Mem) : ∀ v ∈ mV l, v.oneCell' = true := by
  intro v hv
  obtain ⟨x, _, h⟩ := List.mem_flatMap.1 hv
  simp [mmC] at h
  rcases h with rfl | rfl | rfl | rfl <;> rfl
theorem IndexFunc_mem (A X : HP) (v : Value) (l : List Mem) (hv : Vw A v l.length (mV l)) (hlen : l.length ≤ 1000000000) (g : FuncId) (cap : List Value) (p : Mem → Bool)
    (hf : ∀ x ∈ l, Ctr Try.prog g (.agg (mmC x).toArray :: cap) [X] (fun v H => v = .bool (p x) ∧ H = [X])) :
    Ctr Try.prog 78 [v, .func (.func g) #[] cap.toArray] [A, X] (fun r H => r = .int .i64 (idxI p l) ∧ H = [A, X]) := by
  obtain ⟨a, c0, rfl⟩ := hv.shape
  refine Ctr.enter Try.func78 (by kernel_rfl) rfl Try.ntmps78 rfl rfl ?_
  intro G F R hR
  (refine go ?_)
  refine K_loop (fun i : Nat => i ≤ l.length ∧ ∀ y ∈ l.take i, p y = false) (fun i => l.length - i) (fun i => [(0, .slice a l.length c0), (1, .func (.func g) #[] cap.toArray), (7, .int .i64 l.length), (8, .int .i64 i)]) (fun _ => [A, X] ++ F) 0 ⟨by simp, by simp⟩ rfl (by repeat (first | exact keep_nil | refine keep_cons rfl ?_)) (Ent.refl _) ?_
  rintro i ⟨hi, hb⟩ ih
  (refine go ?_)
  refine K_condP rfl rfl ?_ ?_
  · intro hlt
    (refine go ?_)
    have hi' : i < l.length := by omega
    have hx : l[i]? = some l[i] := by simp [hi']
    generalize hxx : l[i] = x at hx
    obtain ⟨b, o, cap', hsl⟩ := hv.some (by rw [← List.length_pos_iff, mV_eq, chunk_len mmC_len]; omega)
    simp only [Value.slice.injEq] at hsl
    obtain ⟨rfl, _, rfl⟩ := hsl
    refine J_at (U := tab) i 4 rfl rfl rfl rfl rfl rfl rfl rfl hi' ?_
    refine J_loadElem (U := tab) (es := mmC x) 0 (i * 4) rfl rfl rfl hv rfl (fun j v hj => ?_) rfl rfl rfl ?_
    · have hj4 : j < 4 := by
        rcases Nat.lt_or_ge j 4 with h | h
        · exact h
        · rw [List.getElem?_eq_none (by rw [mmC_len]; exact h)] at hj; cases hj
      rw [mV_eq, chunk_get mmC_len hx j hj4]; exact hj
    refine J_call [1] rfl rfl rfl rfl (hf x (List.mem_of_getElem? hx)) rfl (fun _ _ _ _ _ => trivial) ?_
    rintro _ _ ⟨rfl, rfl⟩
    (refine go ?_)
    refine K_condA rfl rfl ?_ ?_
    · intro hp
      (refine go ?_)
      refine K_return hR Try.func78 rfl _ rfl ⟨by rw [idxI_some hx hp hb]; rfl, rfl⟩ (Ent.fin [1, 0] 0 rfl rfl)
    · intro hp
      (refine go ?_)
      refine K_again ih (i + 1) rfl ⟨by omega, allTake hb hx hp⟩ (by omega) (by repeat (first | exact keep_nil | refine keep_cons rfl ?_)) (Ent.pick [1, 0] rfl)
  · intro hge
    (refine go ?_)
    have : i = l.length := by omega
    subst this
    refine K_return hR Try.func78 rfl _ rfl ⟨by rw [idxI_none (fun x hx => hb x (by simpa using hx))]; rfl, rfl⟩ (Ent.fin [0, 1] 0 rfl rfl)

theorem ContainsFunc_mem (A X : HP) (v : Value) (l : List Mem) (hv : Vw A v l.length (mV l)) (hlen : l.length ≤ 1000000000) (g : FuncId) (cap : List Value) (p : Mem → Bool)
    (hf : ∀ x ∈ l, Ctr Try.prog g (.agg (mmC x).toArray :: cap) [X] (fun v H => v = .bool (p x) ∧ H = [X])) :
    Ctr Try.prog 58 [v, .func (.func g) #[] cap.toArray] [A, X] (fun r H => r = .bool (l.any p) ∧ H = [A, X]) := by
  refine Ctr.enter Try.func58 (by kernel_rfl) rfl Try.ntmps58 rfl rfl ?_
  intro G F R hE
  (refine go ?_)
  (first | refine J_callE rfl rfl rfl rfl (IndexFunc_mem A X v l hv hlen g cap p hf) entA ?_ (fun _ _ _ _ _ => trivial) | refine J_call0E rfl rfl rfl (IndexFunc_mem A X v l hv hlen g cap p hf) entA ?_ (fun _ _ _ _ _ => trivial) | (refine go ?_; first | refine J_callE rfl rfl rfl rfl (IndexFunc_mem A X v l hv hlen g cap p hf) entA ?_ (fun _ _ _ _ _ => trivial) | refine J_call0E rfl rfl rfl (IndexFunc_mem A X v l hv hlen g cap p hf) entA ?_ (fun _ _ _ _ _ => trivial)))
  rintro _ _ ⟨rfl, rfl⟩
  (refine go ?_)
  (first | refine J_slot 4 ((.bool (l.any p))) rfl ((congrArg Value.bool (idx_any p l))) ?_ | refine K_slot 4 ((.bool (l.any p))) rfl ((congrArg Value.bool (idx_any p l))) ?_)
  (first | refine K_return hE Try.func58 rfl _ rfl ⟨rfl, rfl⟩ entA | refine K_fallEnd hE Try.func58 rfl _ rfl ⟨rfl, rfl⟩ entA)
theorem oddId_any (i : Int) : Ctr Try.prog 53 [.int .i64 i] [] (fun r H => r = .bool (oddId i) ∧ H = []) := by
  refine Ctr.enter Try.func53 (by kernel_rfl) rfl Try.ntmps53 rfl rfl ?_
  intro G F R hE
  (refine go ?_)
  (first | refine J_callE rfl rfl rfl rfl (within_any i 1 65536) entA ?_ (fun _ _ _ _ _ => trivial) | refine J_call0E rfl rfl rfl (within_any i 1 65536) entA ?_ (fun _ _ _ _ _ => trivial) | (refine go ?_; first | refine J_callE rfl rfl rfl rfl (within_any i 1 65536) entA ?_ (fun _ _ _ _ _ => trivial) | refine J_call0E rfl rfl rfl (within_any i 1 65536) entA ?_ (fun _ _ _ _ _ => trivial)))
  rintro _ _ ⟨rfl, rfl⟩
  (refine go ?_)
  (first | refine K_return hE Try.func53 rfl _ rfl ⟨rfl, rfl⟩ entA | refine K_fallEnd hE Try.func53 rfl _ rfl ⟨rfl, rfl⟩ entA)
theorem oddMem_any (x : Mem) (bo : Nat) : Ctr Try.prog 55 [.agg (mmC x).toArray, ptr bo] [pts bo (cl [.func (.func 53) #[] #[] ] 58)] (fun r H => r = .bool (oddMem x) ∧ H = [pts bo (cl [.func (.func 53) #[] #[] ] 58)]) := by
  refine Ctr.enter Try.func55 (by kernel_rfl) rfl Try.ntmps55 rfl rfl ?_
  intro G F R hE
  refine K_regionA rfl ?_
  refine J_box rfl rfl (fun _ _ _ => trivial) ?_
  intro bx
  (refine go ?_)
  (first | refine J_callE rfl rfl rfl rfl (oddId_any x.id) entA ?_ (fun _ _ _ _ _ => trivial) | refine J_call0E rfl rfl rfl (oddId_any x.id) entA ?_ (fun _ _ _ _ _ => trivial) | (refine go ?_; first | refine J_callE rfl rfl rfl rfl (oddId_any x.id) entA ?_ (fun _ _ _ _ _ => trivial) | refine J_call0E rfl rfl rfl (oddId_any x.id) entA ?_ (fun _ _ _ _ _ => trivial)))
  rintro _ _ ⟨rfl, rfl⟩
  have e1 : oddMem x = (oddId x.id || !inA x.inc 0 1073741824 || !inA x.st 1 3 || decide (x.since ≠ 0)) := rfl
  cases h1 : oddId x.id with
  | true => (refine go ?_); (first | refine K_return hE Try.func55 rfl _ rfl ⟨by rw [e1, h1]; rfl, rfl⟩ entA | refine K_fallEnd hE Try.func55 rfl _ rfl ⟨by rw [e1, h1]; rfl, rfl⟩ entA)
  | false =>
  (refine go ?_)
  (first | refine J_callE rfl rfl rfl rfl (within_any x.inc 0 1073741824) entA ?_ (fun _ _ _ _ _ => trivial) | refine J_call0E rfl rfl rfl (within_any x.inc 0 1073741824) entA ?_ (fun _ _ _ _ _ => trivial) | (refine go ?_; first | refine J_callE rfl rfl rfl rfl (within_any x.inc 0 1073741824) entA ?_ (fun _ _ _ _ _ => trivial) | refine J_call0E rfl rfl rfl (within_any x.inc 0 1073741824) entA ?_ (fun _ _ _ _ _ => trivial)))
  rintro _ _ ⟨rfl, rfl⟩
  cases h2 : inA x.inc 0 1073741824 with
  | false => (refine go ?_); (first | refine K_return hE Try.func55 rfl _ rfl ⟨by rw [e1, h1, h2]; rfl, rfl⟩ entA | refine K_fallEnd hE Try.func55 rfl _ rfl ⟨by rw [e1, h1, h2]; rfl, rfl⟩ entA)
  | true =>
  (refine go ?_)
  (first | refine J_callE rfl rfl rfl rfl (within_any x.st 1 3) entA ?_ (fun _ _ _ _ _ => trivial) | refine J_call0E rfl rfl rfl (within_any x.st 1 3) entA ?_ (fun _ _ _ _ _ => trivial) | (refine go ?_; first | refine J_callE rfl rfl rfl rfl (within_any x.st 1 3) entA ?_ (fun _ _ _ _ _ => trivial) | refine J_call0E rfl rfl rfl (within_any x.st 1 3) entA ?_ (fun _ _ _ _ _ => trivial)))
  rintro _ _ ⟨rfl, rfl⟩
  cases h3 : inA x.st 1 3 with
  | false => (refine go ?_); (first | refine K_return hE Try.func55 rfl _ rfl ⟨by rw [e1, h1, h2, h3]; rfl, rfl⟩ entA | refine K_fallEnd hE Try.func55 rfl _ rfl ⟨by rw [e1, h1, h2, h3]; rfl, rfl⟩ entA)
  | true =>
  (refine go ?_)
  (first | refine K_return hE Try.func55 rfl _ rfl ⟨by rw [e1, h1, h2, h3]; rfl, rfl⟩ entA | refine K_fallEnd hE Try.func55 rfl _ rfl ⟨by rw [e1, h1, h2, h3]; rfl, rfl⟩ entA)
set_option maxRecDepth 20000 in
theorem fits_any (X : HP) (v : MV) (m : Msg) (hm : MsgAt X v m) (i : Int) (hi : 1 ≤ i ∧ i ≤ 8) : Ctr Try.prog 41 [.agg (mC v m).toArray, .int .i64 i] [X] (fun r H => r = .bool (fitsA m i) ∧ H = [X]) := by
  obtain ⟨vi, vb, vp, vm⟩ := v
  have hmi := hm.vi
  have hmm := hm.vm
  have hli := hm.li
  have hlm := hm.lm
  obtain ⟨ia, ic, rfl⟩ := hm.vi.shape
  obtain ⟨ba, bc, rfl, _⟩ := hm.vb.2
  obtain ⟨pa, pc, rfl⟩ := hm.vp.shape
  obtain ⟨ma, mc, rfl⟩ := hm.vm.shape
  have hi : i = 1 ∨ i = 2 ∨ i = 3 ∨ i = 4 ∨ i = 5 ∨ i = 6 ∨ i = 7 ∨ i = 8 := by omega
  refine Ctr.enter Try.func41 (by kernel_rfl) rfl Try.ntmps41 rfl rfl ?_
  intro G F R hE
  refine K_regionA rfl ?_
  refine J_box rfl rfl (fun _ _ _ => trivial) ?_
  intro bx
  (refine go ?_)
  refine J_alloc (U := tab) rfl rfl rfl (fun _ _ _ => trivial) ?_
  intro bo
  rcases hi with rfl | rfl | rfl | rfl | rfl | rfl | rfl | rfl
  case inr.inr.inl =>
    (refine go ?_)
    (first | refine J_callE rfl rfl rfl rfl (within_any m.piece 0 1023) entA ?_ (fun _ _ _ _ _ => trivial) | refine J_call0E rfl rfl rfl (within_any m.piece 0 1023) entA ?_ (fun _ _ _ _ _ => trivial) | (refine go ?_; first | refine J_callE rfl rfl rfl rfl (within_any m.piece 0 1023) entA ?_ (fun _ _ _ _ _ => trivial) | refine J_call0E rfl rfl rfl (within_any m.piece 0 1023) entA ?_ (fun _ _ _ _ _ => trivial)))
    rintro _ _ ⟨rfl, rfl⟩
    (refine go ?_)
    (first | refine K_return hE Try.func41 rfl _ rfl ⟨rfl, rfl⟩ entA | refine K_fallEnd hE Try.func41 rfl _ rfl ⟨rfl, rfl⟩ entA)
  case inr.inr.inr.inl =>
    repeat' (first | (with_reducible intro _hh) | refine go1 ?_ | refine J_fork ?_ ?_ | refine J_gsP rfl rfl rfl rfl ?_ ?_ | refine K_condP rfl rfl ?_ ?_)
    · have e1 : fitsA m 4 = !m.ids.any oddId := by show (decide ((m.ids.length : Int) ≤ 64) && !m.ids.any oddId) = _; rw [decide_eq_true _hh]; rfl
      rw [e1] at hE
      (first | refine J_callE rfl rfl rfl rfl (ContainsFunc_int X (pts bo (cl [.func (.func 53) #[] #[] ] 58)) (.slice ia m.ids.length ic) m.ids hmi hli 53 [] oddId (fun x _ => (oddId_any x).frame1 _)) entA ?_ (fun _ _ _ _ _ => trivial) | refine J_call0E rfl rfl rfl (ContainsFunc_int X (pts bo (cl [.func (.func 53) #[] #[] ] 58)) (.slice ia m.ids.length ic) m.ids hmi hli 53 [] oddId (fun x _ => (oddId_any x).frame1 _)) entA ?_ (fun _ _ _ _ _ => trivial) | (refine go ?_; first | refine J_callE rfl rfl rfl rfl (ContainsFunc_int X (pts bo (cl [.func (.func 53) #[] #[] ] 58)) (.slice ia m.ids.length ic) m.ids hmi hli 53 [] oddId (fun x _ => (oddId_any x).frame1 _)) entA ?_ (fun _ _ _ _ _ => trivial) | refine J_call0E rfl rfl rfl (ContainsFunc_int X (pts bo (cl [.func (.func 53) #[] #[] ] 58)) (.slice ia m.ids.length ic) m.ids hmi hli 53 [] oddId (fun x _ => (oddId_any x).frame1 _)) entA ?_ (fun _ _ _ _ _ => trivial)))
      rintro _ _ ⟨rfl, rfl⟩
      (refine go ?_)
      (first | refine K_return hE Try.func41 rfl _ rfl ⟨rfl, rfl⟩ entA | refine K_fallEnd hE Try.func41 rfl _ rfl ⟨rfl, rfl⟩ entA)
    · have e1 : fitsA m 4 = false := by show (decide ((m.ids.length : Int) ≤ 64) && !m.ids.any oddId) = _; rw [decide_eq_false _hh]; rfl
      rw [e1] at hE
      (first | refine K_return hE Try.func41 rfl _ rfl ⟨rfl, rfl⟩ entA | refine K_fallEnd hE Try.func41 rfl _ rfl ⟨rfl, rfl⟩ entA)
  case inr.inr.inr.inr.inl =>
    (refine go ?_)
    refine K_drawA (fun w => Sat G w ([X, pts bx (cl (mC ⟨.slice ia m.ids.length ic, .slice ba m.bytes.length bc, .slice pa m.proof.length pc, .slice ma m.mems.length mc⟩ m) 55)])) (.st 0 (.st 1 (.st 2 (.st 3 (.st 4 (.act 5 (.act 6 (.st 7 .nil)))))))) rfl (by kernel_rfl) (by kernel_rfl) (by kernel_rfl) (fun w hw => hw.ent entA) ?_
    (refine go ?_)
    (first | refine J_callE rfl rfl rfl rfl (most_any m.kind) entA ?_ (fun _ _ w hp hw => by obtain ⟨rfl, rfl⟩ := hp; exact hw.ent entA) | refine J_call0E rfl rfl rfl (most_any m.kind) entA ?_ (fun _ _ w hp hw => by obtain ⟨rfl, rfl⟩ := hp; exact hw.ent entA))
    rintro _ _ ⟨rfl, rfl⟩
    (refine go ?_)
    (first | refine J_callE rfl rfl rfl rfl (within_any m.bytes.length 1 (mostA m.kind)) entA ?_ (fun _ _ w hp hw => by obtain ⟨rfl, rfl⟩ := hp; exact hw.ent entA) | refine J_call0E rfl rfl rfl (within_any m.bytes.length 1 (mostA m.kind)) entA ?_ (fun _ _ w hp hw => by obtain ⟨rfl, rfl⟩ := hp; exact hw.ent entA))
    rintro _ _ ⟨rfl, rfl⟩
    (refine go ?_)
    (first | refine K_return hE Try.func41 rfl _ rfl ⟨rfl, rfl⟩ entA | refine K_fallEnd hE Try.func41 rfl _ rfl ⟨rfl, rfl⟩ entA)
  case inr.inr.inr.inr.inr.inr.inl =>
    (refine go ?_)
    (first | refine J_callE rfl rfl rfl rfl (within_any m.mems.length 1 65) entA ?_ (fun _ _ _ _ _ => trivial) | refine J_call0E rfl rfl rfl (within_any m.mems.length 1 65) entA ?_ (fun _ _ _ _ _ => trivial) | (refine go ?_; first | refine J_callE rfl rfl rfl rfl (within_any m.mems.length 1 65) entA ?_ (fun _ _ _ _ _ => trivial) | refine J_call0E rfl rfl rfl (within_any m.mems.length 1 65) entA ?_ (fun _ _ _ _ _ => trivial)))
    rintro _ _ ⟨rfl, rfl⟩
    cases h1 : inA m.mems.length 1 65 with
    | false =>
      have e1 : fitsA m 7 = false := by show (inA m.mems.length 1 65 && !m.mems.any oddMem) = _; rw [h1]; rfl
      rw [e1] at hE
      (refine go ?_)
      (first | refine K_return hE Try.func41 rfl _ rfl ⟨rfl, rfl⟩ entA | refine K_fallEnd hE Try.func41 rfl _ rfl ⟨rfl, rfl⟩ entA)
    | true =>
      have e1 : fitsA m 7 = !m.mems.any oddMem := by show (inA m.mems.length 1 65 && !m.mems.any oddMem) = _; rw [h1]; rfl
      rw [e1] at hE
      (refine go ?_)
      (first | refine J_callE rfl rfl rfl rfl (ContainsFunc_mem X _ (.slice ma m.mems.length mc) m.mems hmm hlm 55 [ptr bo] oddMem (fun x _ => oddMem_any x bo)) entA ?_ (fun _ _ _ _ _ => trivial) | refine J_call0E rfl rfl rfl (ContainsFunc_mem X _ (.slice ma m.mems.length mc) m.mems hmm hlm 55 [ptr bo] oddMem (fun x _ => oddMem_any x bo)) entA ?_ (fun _ _ _ _ _ => trivial) | (refine go ?_; first | refine J_callE rfl rfl rfl rfl (ContainsFunc_mem X _ (.slice ma m.mems.length mc) m.mems hmm hlm 55 [ptr bo] oddMem (fun x _ => oddMem_any x bo)) entA ?_ (fun _ _ _ _ _ => trivial) | refine J_call0E rfl rfl rfl (ContainsFunc_mem X _ (.slice ma m.mems.length mc) m.mems hmm hlm 55 [ptr bo] oddMem (fun x _ => oddMem_any x bo)) entA ?_ (fun _ _ _ _ _ => trivial)))
      rintro _ _ ⟨rfl, rfl⟩
      (refine go ?_)
      (first | refine K_return hE Try.func41 rfl _ rfl ⟨rfl, rfl⟩ entA | refine K_fallEnd hE Try.func41 rfl _ rfl ⟨rfl, rfl⟩ entA)
  all_goals (
    (refine go ?_)
    (first | refine K_return hE Try.func41 rfl _ rfl ⟨rfl, rfl⟩ entA | refine K_fallEnd hE Try.func41 rfl _ rfl ⟨rfl, rfl⟩ entA))
def okTo (m : Msg) (i : Nat) : Bool := (List.range i).all fun j => decide (j = 0) || okItem m j
theorem okTo_succ (m : Msg) (i : Nat) : okTo m (i + 1) = (okTo m i && (decide (i = 0) || okItem m i)) := by unfold okTo; rw [List.range_succ, List.all_append]; simp
theorem okTo_nine (m : Msg) : okTo m 9 = rightA m := by
  simp only [okTo_succ, show okTo m 0 = true from rfl, rightA]
  rfl
theorem okTo_le {m : Msg} {i : Nat} (h : okTo m (i + 1) = false) (hi : i ≤ 8) : rightA m = false := by
  rw [← okTo_nine]
  have key : ∀ k, okTo m (i + 1 + k) = false := fun k => by
    induction k with
    | zero => exact h
    | succ k ih => rw [show i + 1 + (k + 1) = (i + 1 + k) + 1 from rfl, okTo_succ, ih]; rfl
  have := key (8 - i)
  rwa [show i + 1 + (8 - i) = 9 by omega] at this
theorem kind_len (k : Int) : (hasA k).length ≤ 5 := by
  unfold hasA
  repeat' split
  all_goals decide
set_option maxRecDepth 20000 in
theorem Right_any (X : HP) (v : MV) (m : Msg) (hm : MsgAt X v m) : Ctr Try.prog 26 [.agg (mC v m).toArray] [X] (fun r H => r = .bool (rightA m) ∧ H = [X]) := by
  have hkl := kind_len m.kind
  refine Ctr.enter Try.func26 (by kernel_rfl) rfl Try.ntmps26 rfl rfl ?_
  intro G F R hE
  refine K_regionA rfl ?_
  refine J_box rfl rfl (fun _ _ _ => trivial) ?_
  intro bx
  (refine go ?_)
  (first | refine J_callE rfl rfl rfl rfl (has_any m.kind) entA ?_ (fun _ _ _ _ _ => trivial) | refine J_call0E rfl rfl rfl (has_any m.kind) entA ?_ (fun _ _ _ _ _ => trivial) | (refine go ?_; first | refine J_callE rfl rfl rfl rfl (has_any m.kind) entA ?_ (fun _ _ _ _ _ => trivial) | refine J_call0E rfl rfl rfl (has_any m.kind) entA ?_ (fun _ _ _ _ _ => trivial)))
  rintro _ _ rfl
  (first | refine J_shape 0 rfl ?_ | refine K_shape 0 rfl ?_)
  rintro ha hc rfl
  (refine go ?_)
  refine K_loop (fun i : Nat => 1 ≤ i ∧ i ≤ 9 ∧ okTo m i = true) (fun i => 9 - i) (fun i => [(1, ptr bx), (3, .slice ha (hasA m.kind).length hc), (4, .int .i64 (i : Int))])
    (fun _ => slc 3 1 (.slice ha (hasA m.kind).length hc) (hasA m.kind).length (iV (hasA m.kind)) :: pts bx (cl (mC v m) 55) :: X :: F) 1 ⟨by omega, by omega, rfl⟩ rfl (by repeat (first | exact keep_nil | refine keep_cons rfl ?_)) entA ?_
  rintro i ⟨hi1, hi9, hok⟩ ih
  (refine go ?_)
  refine K_condP rfl rfl ?_ ?_
  case' refine_2 =>
    intro hge
    have : i = 9 := by omega
    subst this
    rw [okTo_nine] at hok
    rw [hok] at hE
    (refine go ?_)
    (first | refine K_return hE Try.func26 rfl _ rfl ⟨rfl, rfl⟩ entA | refine K_fallEnd hE Try.func26 rfl _ rfl ⟨rfl, rfl⟩ entA)
  intro hle
  have hs := okTo_succ m i
  rw [hok, decide_eq_false (show ¬ i = 0 by omega), Bool.true_and, Bool.false_or] at hs
  (refine go ?_)
  refine J_slcVw 0 rfl ?_
  intro hvw
  (first | refine J_callE rfl rfl rfl rfl (ContainsI_any _ _ (hasA m.kind) (i : Int) hvw (by omega)) entA ?_ (fun _ _ _ _ _ => trivial) | refine J_call0E rfl rfl rfl (ContainsI_any _ _ (hasA m.kind) (i : Int) hvw (by omega)) entA ?_ (fun _ _ _ _ _ => trivial) | (refine go ?_; first | refine J_callE rfl rfl rfl rfl (ContainsI_any _ _ (hasA m.kind) (i : Int) hvw (by omega)) entA ?_ (fun _ _ _ _ _ => trivial) | refine J_call0E rfl rfl rfl (ContainsI_any _ _ (hasA m.kind) (i : Int) hvw (by omega)) entA ?_ (fun _ _ _ _ _ => trivial)))
  rintro _ _ ⟨rfl, rfl⟩
  by_cases hin : (i : Int) ∈ hasA m.kind
  · rw [decide_eq_true hin]
    have hs : okTo m (i + 1) = fitsA m i := by rw [hs]; unfold okItem; rw [if_pos hin]
    cases hf : fitsA m (i : Int) with
    | true =>
      (refine go ?_)
      refine J_loadAgg (U := tab) 1 rfl rfl rfl rfl rfl rfl ?_
      (refine go ?_)
      (first | refine J_callE rfl rfl rfl rfl (fits_any X v m hm i ⟨by omega, by omega⟩) entA ?_ (fun _ _ _ _ _ => trivial) | refine J_call0E rfl rfl rfl (fits_any X v m hm i ⟨by omega, by omega⟩) entA ?_ (fun _ _ _ _ _ => trivial) | (refine go ?_; first | refine J_callE rfl rfl rfl rfl (fits_any X v m hm i ⟨by omega, by omega⟩) entA ?_ (fun _ _ _ _ _ => trivial) | refine J_call0E rfl rfl rfl (fits_any X v m hm i ⟨by omega, by omega⟩) entA ?_ (fun _ _ _ _ _ => trivial)))
      rintro _ _ ⟨rfl, rfl⟩
      rw [hf]
      (refine go ?_)
      refine K_again ih (i + 1) rfl ⟨by omega, by omega, hs.trans hf⟩ (by omega) (by repeat (first | exact keep_nil | refine keep_cons rfl ?_)) entA
    | false =>
      rw [okTo_le (hs.trans hf) (by omega)] at hE
      (refine go ?_)
      refine J_loadAgg (U := tab) 1 rfl rfl rfl rfl rfl rfl ?_
      (refine go ?_)
      (first | refine J_callE rfl rfl rfl rfl (fits_any X v m hm i ⟨by omega, by omega⟩) entA ?_ (fun _ _ _ _ _ => trivial) | refine J_call0E rfl rfl rfl (fits_any X v m hm i ⟨by omega, by omega⟩) entA ?_ (fun _ _ _ _ _ => trivial) | (refine go ?_; first | refine J_callE rfl rfl rfl rfl (fits_any X v m hm i ⟨by omega, by omega⟩) entA ?_ (fun _ _ _ _ _ => trivial) | refine J_call0E rfl rfl rfl (fits_any X v m hm i ⟨by omega, by omega⟩) entA ?_ (fun _ _ _ _ _ => trivial)))
      rintro _ _ ⟨rfl, rfl⟩
      rw [hf]
      (refine go ?_)
      (first | refine K_return hE Try.func26 rfl _ rfl ⟨rfl, rfl⟩ entA | refine K_fallEnd hE Try.func26 rfl _ rfl ⟨rfl, rfl⟩ entA)
  · rw [decide_eq_false hin]
    have hs : okTo m (i + 1) = bareA m i := by rw [hs]; unfold okItem; rw [if_neg hin]
    cases hf : bareA m (i : Int) with
    | true =>
      (refine go ?_)
      refine J_loadAgg (U := tab) 1 rfl rfl rfl rfl rfl rfl ?_
      (refine go ?_)
      (first | refine J_callE rfl rfl rfl rfl (bare_any X v m hm i ⟨by omega, by omega⟩) entA ?_ (fun _ _ _ _ _ => trivial) | refine J_call0E rfl rfl rfl (bare_any X v m hm i ⟨by omega, by omega⟩) entA ?_ (fun _ _ _ _ _ => trivial) | (refine go ?_; first | refine J_callE rfl rfl rfl rfl (bare_any X v m hm i ⟨by omega, by omega⟩) entA ?_ (fun _ _ _ _ _ => trivial) | refine J_call0E rfl rfl rfl (bare_any X v m hm i ⟨by omega, by omega⟩) entA ?_ (fun _ _ _ _ _ => trivial)))
      rintro _ _ ⟨rfl, rfl⟩
      rw [hf]
      (refine go ?_)
      refine K_again ih (i + 1) rfl ⟨by omega, by omega, hs.trans hf⟩ (by omega) (by repeat (first | exact keep_nil | refine keep_cons rfl ?_)) entA
    | false =>
      rw [okTo_le (hs.trans hf) (by omega)] at hE
      (refine go ?_)
      refine J_loadAgg (U := tab) 1 rfl rfl rfl rfl rfl rfl ?_
      (refine go ?_)
      (first | refine J_callE rfl rfl rfl rfl (bare_any X v m hm i ⟨by omega, by omega⟩) entA ?_ (fun _ _ _ _ _ => trivial) | refine J_call0E rfl rfl rfl (bare_any X v m hm i ⟨by omega, by omega⟩) entA ?_ (fun _ _ _ _ _ => trivial) | (refine go ?_; first | refine J_callE rfl rfl rfl rfl (bare_any X v m hm i ⟨by omega, by omega⟩) entA ?_ (fun _ _ _ _ _ => trivial) | refine J_call0E rfl rfl rfl (bare_any X v m hm i ⟨by omega, by omega⟩) entA ?_ (fun _ _ _ _ _ => trivial)))
      rintro _ _ ⟨rfl, rfl⟩
      rw [hf]
      (refine go ?_)
      (first | refine K_return hE Try.func26 rfl _ rfl ⟨rfl, rfl⟩ entA | refine K_fallEnd hE Try.func26 rfl _ rfl ⟨rfl, rfl⟩ entA)
end Go.Proofs.Ythcjmhlmoamjpaa

/- draw: Sample; member: Gossip. -/
set_option linter.unusedVariables false
set_option linter.unusedSimpArgs false
namespace Go.Proofs.Ythcjmhlmoamjpaa
open Go Go.SL
attribute [local irreducible] J K Ctr Ends pts slc mapR mapI sbRow stock arrS loopP CtrY viewH II

theorem Vw.front1 {A : HP} {a : Option Addr} {m c : Nat} {l : List Int} (h : Vw A (.slice a m c) m (iV l)) (n : Nat) (hn : n ≤ l.length) : Vw A (.slice (sliceAt a c 0 1) n c) n (iV (l.take n)) := by
  obtain ⟨a', cap, he, h0 | ⟨b, o, ha, hc⟩⟩ := h
  · have : l = [] := by cases l with | nil => rfl | cons x l => simp [iV] at h0
    subst this
    exact ⟨_, _, rfl, .inl (by simp [iV])⟩
  · simp only [Value.slice.injEq] at he
    obtain ⟨rfl, -, rfl⟩ := he
    subst ha
    have hs : sliceAt (some ⟨b, o, none⟩) c 0 1 = some ⟨b, o, none⟩ := by
      unfold sliceAt
      split
      · rfl
      · simp [Addr.add]
    refine ⟨_, _, rfl, .inr ⟨b, o, hs, fun h' hA j x hj => hc h' hA j x ?_⟩⟩
    rw [show iV (l.take n) = (iV l).take n from by simp [iV, List.map_take], List.getElem?_take] at hj
    split at hj
    · exact hj
    · cases hj
theorem Sample_any (b : Nat) (s : Int) (A : HP) (v : Value) (l : List Int) (hv : Vw A v l.length (iV l)) (hl : l.length ≤ 1000000000) (k : Int) :
    Ctr Try.prog 23 [ptr b, v, .int .i64 k] [pts b (cl [.int .u64 s] 89), A] (fun r H => ∃ (a : Option Addr) (c : Nat) (Y : HP), r = .slice a (sampA s l k).length c ∧ Vw Y r (sampA s l k).length (iV (sampA s l k)) ∧ H = [Y, pts b (cl [.int .u64 (shufA s l).1] 89), A]) := by
  obtain ⟨a, c, rfl⟩ := hv.shape
  have hsl := shufA_len s l
  have hsal := sampA_len s l k
  refine Ctr.enter Try.func23 (by kernel_rfl) rfl Try.ntmps23 rfl rfl ?_
  intro G F R hE
  (refine go ?_)
  (first | refine J_callE rfl rfl rfl rfl (Shuffle_any b s A _ l hv hl) entA ?_ (fun _ _ _ _ _ => trivial) | refine J_call0E rfl rfl rfl (Shuffle_any b s A _ l hv hl) entA ?_ (fun _ _ _ _ _ => trivial) | (refine go ?_; first | refine J_callE rfl rfl rfl rfl (Shuffle_any b s A _ l hv hl) entA ?_ (fun _ _ _ _ _ => trivial) | refine J_call0E rfl rfl rfl (Shuffle_any b s A _ l hv hl) entA ?_ (fun _ _ _ _ _ => trivial)))
  rintro r _ rfl
  (first | refine J_shape 0 rfl ?_ | refine K_shape 0 rfl ?_)
  rintro ra rc rfl
  refine J_slcVC 0 rfl ?_
  intro hvr hcap
  (refine go ?_)
  obtain ⟨n, hn⟩ : ∃ n, n = cutN k (shufA s l).2.length := ⟨_, rfl⟩
  have hnl : n ≤ (shufA s l).2.length := by rw [hn]; unfold cutN; omega
  have hsn : (sampA s l k) = (shufA s l).2.take n := by unfold sampA; rw [hn, hsl]
  (first | refine J_slot 16 ((.int .i64 (n : Int))) rfl ((congrArg (Value.int .i64) (by rw [hn]; unfold cutN; omega))) ?_ | refine K_slot 16 ((.int .i64 (n : Int))) rfl ((congrArg (Value.int .i64) (by rw [hn]; unfold cutN; omega))) ?_)
  refine J_sliceAny (U := tab) (p := 0) (q := (n : Int)) rfl rfl rfl rfl rfl rfl rfl (by omega) (by omega) (.inr (by omega)) ?_
  have hvf := Vw.front1 hvr n hnl
  have hnn : n = (sampA s l k).length := by rw [hsn, List.length_take]; omega
  (first | refine J_slot 17 ((.slice (sliceAt ra rc 0 1) n rc)) rfl ((by rw [show ((n : Int)).toNat = n from by omega]; rfl)) ?_ | refine K_slot 17 ((.slice (sliceAt ra rc 0 1) n rc)) rfl ((by rw [show ((n : Int)).toNat = n from by omega]; rfl)) ?_)
  (refine go ?_)
  rw [← hsn] at hvf
  rw [hnn] at hvf ⊢
  (first | refine K_return hE Try.func23 rfl _ rfl ⟨_, _, _, rfl, hvf, rfl⟩ entA | refine K_fallEnd hE Try.func23 rfl _ rfl ⟨_, _, _, rfl, hvf, rfl⟩ entA)
set_option maxRecDepth 20000 in
theorem Gossip_any (bv : Nat) (V : VM) (hnd : (V.ks.map Mem.id).Nodup) (hlen : V.ks.length ≤ 1000000) (most : Int) (seed : Int) :
    Ctr Try.prog 12 [ptr bv, .int .i64 most, .int .u64 seed] [viewH bv V] (fun r H => H = [slc 30 4 r (gossipA V most seed).length (mV (gossipA V most seed)), viewH bv V]) := by
  refine Ctr.enter Try.func12 (by kernel_rfl) rfl Try.ntmps12 rfl rfl ?_
  intro G F R hE
  refine K_open (viewH_open bv V) ?_
  rintro bm -
  (refine go ?_)
  refine K_drawA (fun w => Sat G w ([pts bv (cl (mmC V.self ++ [.int .i64 V.most, .map (some bm)]) 42)])) (.st 0 (.st 2 (.st 3 (.st 4 (.st 5 (.st 8 (.st 11 (.act 1 (.act 6 (.act 7 (.act 9 (.st 10 .nil)))))))))))) rfl (by kernel_rfl) (by kernel_rfl) (by kernel_rfl) (fun w hw => hw.ent entA) ?_
  (refine go ?_)
  (first | refine J_callE rfl rfl rfl rfl (drawNew_any seed) entA ?_ (fun _ _ w hp hw => by obtain ⟨_, rfl, rfl⟩ := hp; exact hw.ent entA) | refine J_call0E rfl rfl rfl (drawNew_any seed) entA ?_ (fun _ _ w hp hw => by obtain ⟨_, rfl, rfl⟩ := hp; exact hw.ent entA))
  rintro _ _ ⟨bd, rfl, rfl⟩
  (refine go ?_)
  (first | refine J_callE rfl rfl rfl rfl (mKeys_any bm) entA ?_ (fun _ _ w hp hw => by obtain ⟨_, rfl, rfl⟩ := hp; exact hw.ent entA) | refine J_call0E rfl rfl rfl (mKeys_any bm) entA ?_ (fun _ _ w hp hw => by obtain ⟨_, rfl, rfl⟩ := hp; exact hw.ent entA))
  rintro _ _ ⟨bx, rfl, rfl⟩
  (refine go ?_)
  have hes : (esM V.ks).map (·.1) = V.ks.map Mem.id := esM_keys V.ks
  have hel : (esM V.ks).length = V.ks.length := List.length_map _
  (first | refine J_callE rfl rfl rfl rfl (SortedI_any 39 [ptr bx] (esM V.ks).length [pts bx (cl [.map (some bm)] 40), mapR (Value.int .i64) bm (esM V.ks)] [mapR (Value.int .i64) bm (esM V.ks)] (fun xs => xs.Perm ((esM V.ks).map (·.1))) (by omega) (mKeys1_any bx bm (esM V.ks) (by rw [hes]; exact hnd)) (fun xs hx => by rw [hx.length_eq, List.length_map]; omega)) entA ?_ (fun _ _ w hp hw => by obtain ⟨_, _, rfl⟩ := hp; exact hw.ent entA) | refine J_call0E rfl rfl rfl (SortedI_any 39 [ptr bx] (esM V.ks).length [pts bx (cl [.map (some bm)] 40), mapR (Value.int .i64) bm (esM V.ks)] [mapR (Value.int .i64) bm (esM V.ks)] (fun xs => xs.Perm ((esM V.ks).map (·.1))) (by omega) (mKeys1_any bx bm (esM V.ks) (by rw [hes]; exact hnd)) (fun xs hx => by rw [hx.length_eq, List.length_map]; omega)) entA ?_ (fun _ _ w hp hw => by obtain ⟨_, _, rfl⟩ := hp; exact hw.ent entA))
  rintro r _ ⟨xs, hxs, rfl⟩
  rw [hes] at hxs
  have hri : risI xs = risI (V.ks.map Mem.id) := risI_eq hxs
  rw [hri, show xs.length = (risI (V.ks.map Mem.id)).length from by rw [risI_len, hxs.length_eq]]
  obtain ⟨ids, hids⟩ : ∃ ids, ids = risI (V.ks.map Mem.id) := ⟨_, rfl⟩
  rw [← hids]
  have hidl : ids.length = V.ks.length := by rw [hids, risI_len, List.length_map]
  (first | refine J_shape 0 rfl ?_ | refine K_shape 0 rfl ?_)
  rintro ra rc rfl
  refine J_slcVw 0 rfl ?_
  intro hvr
  (refine go ?_)
  (first | refine J_callE rfl rfl rfl rfl (Sample_any bd seed _ _ ids hvr (by omega) most) entA ?_ (fun _ _ w hp hw => by obtain ⟨_, _, _, rfl, _, rfl⟩ := hp; exact hw.ent entA) | refine J_call0E rfl rfl rfl (Sample_any bd seed _ _ ids hvr (by omega) most) entA ?_ (fun _ _ w hp hw => by obtain ⟨_, _, _, rfl, _, rfl⟩ := hp; exact hw.ent entA))
  rintro _ _ ⟨sa, sc, Y, rfl, hvs, rfl⟩
  (refine go ?_)
  obtain ⟨ss, hss⟩ : ∃ ss, ss = sampA seed ids most := ⟨_, rfl⟩
  have hssl : ss.length ≤ 1000000 := by rw [hss, sampA_len]; unfold cutN; omega
  have hgos : gossipA V most seed = ss.map (fun id => (findM V.ks id).getD ⟨0, 0, 0, 0⟩) ++ [V.self] := by rw [hss, hids]; rfl
  rw [← hss] at hvs ⊢
  refine K_loop (fun y : Nat × List Mem × Option Addr × Nat => y.1 ≤ ss.length ∧ y.2.1 = (ss.take y.1).map (fun id => (findM V.ks id).getD ⟨0, 0, 0, 0⟩)) (fun y => ss.length - y.1)
    (fun y => [(0, ptr bv), (7, .slice y.2.2.1 y.2.1.length y.2.2.2), (19, .slice sa ss.length sc), (20, .int .i64 (ss.length : Int)), (21, .int .i64 (y.1 : Int))])
    (fun y => slc 30 4 (.slice y.2.2.1 y.2.1.length y.2.2.2) y.2.1.length (mV y.2.1) :: pts bv (cl (mmC V.self ++ [.int .i64 V.most, .map (some bm)]) 42) :: mapR (Value.int .i64) bm (esM V.ks) :: Y :: F) (0, [], none, 0) ⟨Nat.zero_le _, rfl⟩ rfl (by repeat (first | exact keep_nil | refine keep_cons rfl ?_)) (Ent.trans (slc_lift 30 4 none _) entA) ?_
  rintro ⟨i, acc, a1, c1⟩ ⟨hi, hacc⟩ ih
  simp only at hi hacc
  have hal : acc.length = i := by rw [hacc, List.length_map, List.length_take]; omega
  (refine go ?_)
  refine K_condP rfl rfl ?_ ?_
  case' refine_2 =>
    intro hge
    simp only at hge
    have hend : gossipA V most seed = acc ++ [V.self] := by rw [hgos, hacc, List.take_of_length_le (by omega)]
    rw [hend] at hE
    (refine go ?_)
    refine J_loadAgg (U := tab) 1 rfl rfl rfl rfl rfl rfl ?_
    (refine go ?_)
    refine J_buildSlice1 (U := tab) (cs := mmC V.self) rfl rfl rfl rfl rfl rfl rfl rfl rfl (fun _ _ _ => trivial) ?_
    intro row
    (refine go ?_)
    refine J_append (U := tab) (mm := 1) (news := mmC V.self) 1 0 rfl rfl rfl rfl rfl rfl rfl rfl rfl rfl rfl rfl (Vw.pts rfl) rfl (by intro v hv; simp [mmC] at hv; rcases hv with rfl | rfl | rfl | rfl <;> rfl) (by simp only; omega) (by show (_ + _) * 32 ≤ _; simp only; omega) (fun _ => rfl) (fun _ _ _ => trivial) ?_
    intro v1
    simp only
    rw [show mV acc ++ mmC V.self = mV (acc ++ [V.self]) from by simp [mV], show acc.length + 1 = (acc ++ [V.self]).length from by simp]
    (first | refine J_shape 1 rfl ?_ | refine K_shape 1 rfl ?_)
    rintro ja jc rfl
    (refine go ?_)
    refine K_ent (Ent.trans (Ent.pick [2, 3] rfl) (viewH_close bv bm V _)) ?_
    (first | refine K_return hE Try.func12 rfl _ rfl rfl entA | refine K_fallEnd hE Try.func12 rfl _ rfl rfl entA)
  intro hlt
  simp only at hlt
  have hi' : i < ss.length := by omega
  obtain ⟨x, hx⟩ : ∃ x, ss[i]? = some x := ⟨ss[i], by simp⟩
  obtain ⟨b3, o3, c3, hs3⟩ := hvs.some (ine hi')
  simp only [Value.slice.injEq, true_and] at hs3
  obtain ⟨rfl, rfl⟩ := hs3
  obtain ⟨y, hy⟩ : ∃ y, y = (findM V.ks x).getD ⟨0, 0, 0, 0⟩ := ⟨_, rfl⟩
  have ht : (ss.take (i + 1)).map (fun id => (findM V.ks id).getD ⟨0, 0, 0, 0⟩) = acc ++ [y] := by
    rw [List.take_add_one, hx, Option.toList_some, List.map_append, ← hacc, hy]; rfl
  have hlook : (alook (esM V.ks) x).getD (.agg #[.int .i64 0, .int .i64 0, .int .i64 0, .int .i64 0]) = mmV y := by
    rw [esM_look, hy]
    all_goals (cases findM V.ks x <;> rfl)
  (refine go ?_)
  refine J_at1 (U := tab) i rfl rfl rfl rfl rfl rfl rfl rfl hi' ?_
  refine J_loadAt (U := tab) 3 i rfl rfl rfl hvs rfl (iV_get hx) rfl rfl ?_
  (refine go ?_)
  refine J_lookup (U := tab) (es := esM V.ks) (key := x) 2 rfl kIntM rfl rfl rfl rfl rfl rfl rfl rfl ?_
  rw [hlook]
  (refine go ?_)
  refine J_buildSlice1 (U := tab) (cs := mmC y) rfl rfl rfl rfl rfl rfl rfl rfl rfl (fun _ _ _ => trivial) ?_
  intro row
  (refine go ?_)
  refine J_append (U := tab) (mm := 1) (news := mmC y) 1 0 rfl rfl rfl rfl rfl rfl rfl rfl rfl rfl rfl rfl (Vw.pts rfl) rfl (by intro v hv; simp [mmC] at hv; rcases hv with rfl | rfl | rfl | rfl <;> rfl) (by simp only; omega) (by show (_ + _) * 32 ≤ _; simp only; omega) (fun _ => rfl) (fun _ _ _ => trivial) ?_
  intro v1
  simp only
  rw [show mV acc ++ mmC y = mV (acc ++ [y]) from by simp [mV], show acc.length + 1 = (acc ++ [y]).length from by simp]
  (first | refine J_shape 1 rfl ?_ | refine K_shape 1 rfl ?_)
  rintro ja jc rfl
  (refine go ?_)
  refine K_again ih (i + 1, acc ++ [y], ja, jc) rfl ⟨by simp only; omega, by simp only; rw [ht]⟩ (by simp only; omega) (by repeat (first | exact keep_nil | refine keep_cons rfl ?_)) entA
end Go.Proofs.Ythcjmhlmoamjpaa

