/- journal, part n0: JournalBack, the walk. -/
import Derived.Test.YtpdmbmnhgcnelaaJm
import Derived.Test.YtpdmbmnhgcnelaaEngW
set_option linter.unusedVariables false
set_option linter.unusedSimpArgs false
namespace Go.Proofs.Ytpdmbmnhgcnelaa
open Go Go.SL
attribute [local irreducible] J K Ctr Ends pts slc mapR mapI sbRow stock arrS loopP CtrY diskA LI listH

theorem flat_bound : ∀ (ls : List (List UInt8)), (∀ x ∈ ls, x.length ≤ 4096) → (ls.flatMap encL).length ≤ 4106 * ls.length
  | [], _ => by simp
  | x :: ls, h => by
    have h1 := flat_bound ls (fun y hy => h y (List.mem_cons_of_mem _ hy))
    have hx := h x (List.mem_cons_self ..)
    have h2 := encL_len x (by omega)
    simp only [List.flatMap_cons, List.length_append, List.length_cons]
    omega
end Go.Proofs.Ytpdmbmnhgcnelaa
namespace Go.Proofs.Ytpdmbmnhgcnelaa
open Go Go.SL
section
variable {P : Program} {f : FuncId} {n : Nat} {R : Ending → World → Prop} {G : Glob} {k : List Item} {L : Lst} {H : List HP} {S : World → Prop} {all : Array Oper} {rest : Pl}
theorem J_dA {bd : Nat} {A : Ab} (i : Nat) (hi : getL H i = some (diskA bd A)) (h : (∃ D, Rel D A) → J P f n R G S all rest k L H) : J P f n R G S all rest k L H :=
  J_sat fun w hw => by
    obtain ⟨h1, _, D, hR, _⟩ := hw.getA hi
    exact h ⟨D, hR⟩
end
attribute [local irreducible] J K Ctr Ends pts slc mapR mapI sbRow stock arrS loopP CtrY diskA LI listH
structure BS where
  A : Ab
  ls : List (List UInt8)
  v : Value
  cs : List Value
  g : Nat
  i : Nat
set_option maxRecDepth 20000 in
theorem JournalBack_any (X : HP) (lv : Value) (l : List (List UInt8)) (hv : LAt X lv l) (hll : l.length ≤ 9223372036854775807) (hle : ∀ x ∈ l, x.length ≤ 9223372036854775807) :
    Ctr Try.prog 5 [lv] [X] (fun r H => r = .bool true ∧ H = [X]) := by
  obtain ⟨cs0, hvw, hcl, ⟨a, cc, rfl, hcc⟩, hel⟩ := hv
  refine Ctr.enter Try.func5 (by kernel_rfl) rfl Try.ntmps5 rfl rfl ?_
  intro G F R hE
  (refine go ?_)
  (first | refine J_callE rfl rfl rfl rfl (awake_any) entA ?_ (fun _ _ _ _ _ => trivial) | refine J_call0E rfl rfl rfl (awake_any) entA ?_ (fun _ _ _ _ _ => trivial) | (refine go ?_; first | refine J_callE rfl rfl rfl rfl (awake_any) entA ?_ (fun _ _ _ _ _ => trivial) | refine J_call0E rfl rfl rfl (awake_any) entA ?_ (fun _ _ _ _ _ => trivial)))
  rintro _ _ ⟨rfl, rfl⟩
  (refine go ?_)
  (first | refine J_callE rfl rfl rfl rfl (New_dA 16777216 (by omega) (by omega)) entA ?_ (fun _ _ _ _ _ => trivial) | refine J_call0E rfl rfl rfl (New_dA 16777216 (by omega) (by omega)) entA ?_ (fun _ _ _ _ _ => trivial) | (refine go ?_; first | refine J_callE rfl rfl rfl rfl (New_dA 16777216 (by omega) (by omega)) entA ?_ (fun _ _ _ _ _ => trivial) | refine J_call0E rfl rfl rfl (New_dA 16777216 (by omega) (by omega)) entA ?_ (fun _ _ _ _ _ => trivial)))
  rintro _ _ ⟨bd, rfl, rfl⟩
  (refine go ?_)
  refine K_condP rfl rfl ?_ ?_
  · intro hbig
    (refine go ?_)
    (first | refine K_return hE Try.func5 rfl _ rfl ⟨rfl, rfl⟩ entA | refine K_fallEnd hE Try.func5 rfl _ rfl ⟨rfl, rfl⟩ entA)
  intro hsm
  have hl30 : l.length ≤ 30 := by omega
  (refine go ?_)
  (first | refine J_callE rfl rfl rfl rfl (Open_any bd nmJ (Ab.new 16777216) (by decide) (by simp [Ab.new]) (by simp [Ab.new])) entA ?_ (fun _ _ _ _ _ => trivial) | refine J_call0E rfl rfl rfl (Open_any bd nmJ (Ab.new 16777216) (by decide) (by simp [Ab.new]) (by simp [Ab.new])) entA ?_ (fun _ _ _ _ _ => trivial) | (refine go ?_; first | refine J_callE rfl rfl rfl rfl (Open_any bd nmJ (Ab.new 16777216) (by decide) (by simp [Ab.new]) (by simp [Ab.new])) entA ?_ (fun _ _ _ _ _ => trivial) | refine J_call0E rfl rfl rfl (Open_any bd nmJ (Ab.new 16777216) (by decide) (by simp [Ab.new]) (by simp [Ab.new])) entA ?_ (fun _ _ _ _ _ => trivial)))
  rintro _ _ ⟨e, A1, x, ho, hpost⟩
  obtain ⟨rfl, hx, ⟨g, hI⟩, hw⟩ := open_law (new_putOk 16777216 nmJ) nmJ_name nmJ_fresh nmJ_ne (new_file _ _) (by decide) (by rw [new_used]; decide) ho
  rcases hpost with ⟨h, -⟩ | ⟨-, jb, lv1, rfl, rfl⟩
  · exact absurd rfl h
  subst hx
  have hw1 : A1.writes.length ≤ 1 := by simpa [Ab.new] using hw
  (refine go ?_)
  refine K_ent (slc_lift 22 1 none _) ?_
  refine K_loop (fun y : BS => y.i ≤ l.length ∧ y.ls.length ≤ y.i ∧ y.cs.length = y.ls.length ∧ (∀ (j : Nat) (z : List UInt8), y.ls[j]? = some z → ∃ cv, y.cs[j]? = some cv ∧ BAt X cv z) ∧ (∀ z ∈ y.ls, z.length ≤ 4096) ∧ AInv y.A nmJ y.g 0 16777216 (y.ls.flatMap encL) ∧ y.A.writes.length ≤ 1 + y.i) (fun y => l.length - y.i)
    (fun y => [(0, .slice a l.length cc), (4, ptr bd), (6, ptr jb), (8, y.v), (9, .int .i64 (y.i : Int))])
    (fun y => slc 22 1 y.v y.ls.length y.cs :: X :: diskA bd y.A :: jrN jb bd nmJ ⟨1, ((y.ls.flatMap encL).length : Int), 0, false⟩ :: F) ⟨A1, [], .slice none 0 0, [], g, 0⟩ ⟨Nat.zero_le _, Nat.zero_le _, rfl, by simp, by simp, hI, by simp only; omega⟩ rfl (by repeat (first | exact keep_nil | refine keep_cons rfl ?_)) entA ?_
  rintro ⟨A, ls, v, cs, g, i⟩ ⟨hi, hsl, hcsl, hcs, h4, hI, hwr⟩ ih
  simp only at hi hsl hcsl hcs h4 hI hwr
  have hfb := flat_bound ls h4
  (first | refine J_shape 0 rfl ?_ | refine K_shape 0 rfl ?_)
  intro va vc hvv
  simp only at hvv
  subst hvv
  simp only
  (refine go ?_)
  refine K_condP rfl rfl ?_ ?_
  · intro hlt
    have hil : i < l.length := by omega
    obtain ⟨x, hx⟩ : ∃ x, l[i]? = some x := ⟨l[i], List.getElem?_eq_getElem hil⟩
    obtain ⟨cv, hcv, hb⟩ := hel i x hx
    have hxm := hle x (List.mem_of_getElem? hx)
    obtain ⟨b0, o0, c0, he0⟩ := hvw.some (by intro h; rw [h] at hcv; simp at hcv)
    simp only [Value.slice.injEq] at he0
    obtain ⟨rfl, -, rfl⟩ := he0
    obtain ⟨ax, cx, rfl, hcx⟩ := hb.2
    have hac := Append_any jb bd nmJ A ⟨1, ((ls.flatMap encL).length : Int), 0, false⟩ X _ x hb hxm (by simp only; omega) (by omega)
    have hcase : (4096 < x.length ∧ appendA nmJ A ⟨1, ((ls.flatMap encL).length : Int), 0, false⟩ x = (1, A, ⟨1, ((ls.flatMap encL).length : Int), 0, false⟩)) ∨ (x.length ≤ 4096 ∧ ∃ A2, appendA nmJ A ⟨1, ((ls.flatMap encL).length : Int), 0, false⟩ x = (0, A2, ⟨1, (((ls ++ [x]).flatMap encL).length : Int), 0, false⟩) ∧ AInv A2 nmJ g 0 16777216 ((ls ++ [x]).flatMap encL) ∧ A2.writes.length ≤ A.writes.length + 1) := by
      rcases Nat.lt_or_ge 4096 x.length with h | h
      · exact .inl ⟨h, append_big rfl h⟩
      · refine .inr ⟨h, ?_⟩
        have hel := encL_len x (by omega)
        obtain ⟨p1, p2, p3, p4⟩ := append_law hI nmJ_name h (by omega) (by omega)
        have hfm : (ls ++ [x]).flatMap encL = ls.flatMap encL ++ encL x := by simp
        rw [hfm]
        exact ⟨_, Prod.ext p1 (Prod.ext rfl p2), p3, p4⟩
    (refine go ?_)
    refine J_at1 (U := tab) i rfl rfl rfl rfl rfl rfl rfl rfl hil ?_
    refine J_loadAt (U := tab) 1 i rfl rfl rfl hvw rfl hcv rfl rfl ?_
    (refine go ?_)
    refine K_condP rfl rfl ?_ ?_
    · intro h6
      (refine go ?_)
      (first | refine K_return hE Try.func5 rfl _ rfl ⟨rfl, rfl⟩ entA | refine K_fallEnd hE Try.func5 rfl _ rfl ⟨rfl, rfl⟩ entA)
    intro h6
    (refine go ?_)
    refine J_at1 (U := tab) i rfl rfl rfl rfl rfl rfl rfl rfl hil ?_
    refine J_loadAt (U := tab) 1 i rfl rfl rfl hvw rfl hcv rfl rfl ?_
    (first | refine J_callE rfl rfl rfl rfl (hac) entA ?_ (fun _ _ _ _ _ => trivial) | refine J_call0E rfl rfl rfl (hac) entA ?_ (fun _ _ _ _ _ => trivial) | (refine go ?_; first | refine J_callE rfl rfl rfl rfl (hac) entA ?_ (fun _ _ _ _ _ => trivial) | refine J_call0E rfl rfl rfl (hac) entA ?_ (fun _ _ _ _ _ => trivial)))
    rintro _ _ ⟨rfl, rfl⟩
    rcases hcase with ⟨h4k, heq⟩ | ⟨h4k, A2, heq, hI2, hw2⟩
    · rw [heq]
      (refine go ?_)
      refine J_at1 (U := tab) i rfl rfl rfl rfl rfl rfl rfl rfl hil ?_
      refine J_loadAt (U := tab) 2 i rfl rfl rfl hvw rfl hcv rfl rfl ?_
      (refine go ?_)
      (first | refine J_slot 83 ((.bool false)) rfl ((congrArg Value.bool (by rw [show decide ((x.length : Int) ≤ 4096) = false from decide_eq_false (by omega)]; rfl))) ?_ | refine K_slot 83 ((.bool false)) rfl ((congrArg Value.bool (by rw [show decide ((x.length : Int) ≤ 4096) = false from decide_eq_false (by omega)]; rfl))) ?_)
      (refine go ?_)
      refine K_again ih ⟨A, ls, .slice va ls.length vc, cs, g, i + 1⟩ rfl (⟨by simp only; omega, by simp only; omega, hcsl, hcs, h4, hI, by simp only; omega⟩) (by simp only; omega) (by repeat (first | exact keep_nil | refine keep_cons rfl ?_)) entA
    · rw [heq]
      (refine go ?_)
      refine J_at1 (U := tab) i rfl rfl rfl rfl rfl rfl rfl rfl hil ?_
      refine J_loadAt (U := tab) 2 i rfl rfl rfl hvw rfl hcv rfl rfl ?_
      (refine go ?_)
      (first | refine J_slot 83 ((.bool false)) rfl ((congrArg Value.bool (by rw [show decide ((x.length : Int) ≤ 4096) = true from decide_eq_true (by omega)]; rfl))) ?_ | refine K_slot 83 ((.bool false)) rfl ((congrArg Value.bool (by rw [show decide ((x.length : Int) ≤ 4096) = true from decide_eq_true (by omega)]; rfl))) ?_)
      (refine go ?_)
      refine J_at1 (U := tab) i rfl rfl rfl rfl rfl rfl rfl rfl hil ?_
      refine J_loadAt (U := tab) 2 i rfl rfl rfl hvw rfl hcv rfl rfl ?_
      refine J_buildSlice1 (U := tab) rfl rfl rfl rfl rfl rfl rfl rfl rfl (fun _ _ _ => trivial) ?_
      intro row
      (refine go ?_)
      refine J_append (U := tab) (mm := 1) (news := [.slice ax x.length cx]) 4 0 rfl rfl rfl rfl rfl rfl rfl rfl rfl rfl rfl rfl (Vw.pts rfl) rfl (by simp [Value.oneCell']) (by omega) (by show (_ + 1) * 24 ≤ _; omega) (fun _ => rfl) (fun _ _ _ => trivial) ?_
      intro v1
      rw [show ls.length + 1 = (ls ++ [x]).length from by simp]
      (first | refine J_shape 4 rfl ?_ | refine K_shape 4 rfl ?_)
      rintro va2 vc2 rfl
      (refine go ?_)
      have hcs2 : ∀ (j : Nat) (z : List UInt8), (ls ++ [x])[j]? = some z → ∃ cv, (cs ++ [.slice ax x.length cx])[j]? = some cv ∧ BAt X cv z := by
        intro j z hj
        rw [List.getElem?_append] at hj ⊢
        rw [hcsl]
        split at hj
        · rename_i h; rw [if_pos h]; exact hcs j z hj
        · rename_i h
          rw [if_neg h]
          have h0 : j - ls.length = 0 := by
            rcases Nat.eq_zero_or_pos (j - ls.length) with h | h
            · exact h
            · rw [List.getElem?_eq_none (by simp; omega)] at hj; cases hj
          rw [h0] at hj ⊢
          cases hj
          exact ⟨_, rfl, hb⟩
      refine K_again ih ⟨A2, ls ++ [x], .slice va2 (ls ++ [x]).length vc2, cs ++ [.slice ax x.length cx], g, i + 1⟩ rfl (⟨by simp only; omega, by simp only [List.length_append, List.length_singleton]; omega, by simp [hcsl], hcs2, (fun z hz => by rcases List.mem_append.1 hz with h | h; exact h4 z h; simp at h; subst h; exact h4k), hI2, by simp only; omega⟩) (by simp only; omega) (by repeat (first | exact keep_nil | refine keep_cons rfl ?_)) entA
  intro hge
  (refine go ?_)
  (first | refine J_callE rfl rfl rfl rfl (Commit_any jb bd nmJ A ⟨1, ((ls.flatMap encL).length : Int), 0, false⟩ (by simp only; omega) (by simp only; omega) (by rw [hI.states]; simp) (by omega)) entA ?_ (fun _ _ _ _ _ => trivial) | refine J_call0E rfl rfl rfl (Commit_any jb bd nmJ A ⟨1, ((ls.flatMap encL).length : Int), 0, false⟩ (by simp only; omega) (by simp only; omega) (by rw [hI.states]; simp) (by omega)) entA ?_ (fun _ _ _ _ _ => trivial) | (refine go ?_; first | refine J_callE rfl rfl rfl rfl (Commit_any jb bd nmJ A ⟨1, ((ls.flatMap encL).length : Int), 0, false⟩ (by simp only; omega) (by simp only; omega) (by rw [hI.states]; simp) (by omega)) entA ?_ (fun _ _ _ _ _ => trivial) | refine J_call0E rfl rfl rfl (Commit_any jb bd nmJ A ⟨1, ((ls.flatMap encL).length : Int), 0, false⟩ (by simp only; omega) (by simp only; omega) (by rw [hI.states]; simp) (by omega)) entA ?_ (fun _ _ _ _ _ => trivial)))
  rintro _ _ ⟨ec, Ac, xc, rfl, rfl, hcm⟩
  have hb5 : (ls.flatMap encL).length ≤ 524288 := by omega
  obtain ⟨rfl, -, hroom, C, hjf, hjs, -, -, hwc⟩ := commit_law hI nmJ_name hb5 (by omega) hcm
  (refine go ?_)
  (first | refine J_callE rfl rfl rfl rfl (Crash_dA bd Ac 0 (-1) 0 X (.slice none 0 0) [] ⟨none, 0, rfl, .inl rfl⟩ (by simp) (by rw [hjs.states]; simp) (by omega) (by omega) (by omega) (by omega)) entA ?_ (fun _ _ _ _ _ => trivial) | refine J_call0E rfl rfl rfl (Crash_dA bd Ac 0 (-1) 0 X (.slice none 0 0) [] ⟨none, 0, rfl, .inl rfl⟩ (by simp) (by rw [hjs.states]; simp) (by omega) (by omega) (by omega) (by omega)) entA ?_ (fun _ _ _ _ _ => trivial) | (refine go ?_; first | refine J_callE rfl rfl rfl rfl (Crash_dA bd Ac 0 (-1) 0 X (.slice none 0 0) [] ⟨none, 0, rfl, .inl rfl⟩ (by simp) (by rw [hjs.states]; simp) (by omega) (by omega) (by omega) (by omega)) entA ?_ (fun _ _ _ _ _ => trivial) | refine J_call0E rfl rfl rfl (Crash_dA bd Ac 0 (-1) 0 X (.slice none 0 0) [] ⟨none, 0, rfl, .inl rfl⟩ (by simp) (by rw [hjs.states]; simp) (by omega) (by omega) (by omega) (by omega)) entA ?_ (fun _ _ _ _ _ => trivial)))
  rintro _ _ rfl
  obtain ⟨-, hcs2, -, hcw⟩ := crash_law hjf hjs [] (-1) 0
  obtain ⟨Ad, hAd⟩ : ∃ Ad, Ad = Ac.crash 0 [] (-1) 0 := ⟨_, rfl⟩
  rw [← hAd] at hcs2 hcw ⊢
  (refine go ?_)
  (first | refine J_callE rfl rfl rfl rfl (Open_any bd nmJ Ad (by decide) (by rw [hcs2.states]; simp) (by rw [hcw]; simp)) entA ?_ (fun _ _ _ _ _ => trivial) | refine J_call0E rfl rfl rfl (Open_any bd nmJ Ad (by decide) (by rw [hcs2.states]; simp) (by rw [hcw]; simp)) entA ?_ (fun _ _ _ _ _ => trivial) | (refine go ?_; first | refine J_callE rfl rfl rfl rfl (Open_any bd nmJ Ad (by decide) (by rw [hcs2.states]; simp) (by rw [hcw]; simp)) entA ?_ (fun _ _ _ _ _ => trivial) | refine J_call0E rfl rfl rfl (Open_any bd nmJ Ad (by decide) (by rw [hcs2.states]; simp) (by rw [hcw]; simp)) entA ?_ (fun _ _ _ _ _ => trivial)))
  rintro _ _ ⟨e2, A2, x2, ho2, hpost2⟩
  obtain ⟨-, -, rfl, hfl, rfl, ⟨g2, hI2⟩, -, hw2⟩ := hI.back nmJ_name nmJ_fresh nmJ_ne h4 hb5 (by omega) hcm (hAd ▸ ho2)
  rw [← hAd] at hfl
  rw [hfl] at hpost2
  rcases hpost2 with ⟨h, -⟩ | ⟨-, jb2, lv2, rfl, rfl⟩
  · exact absurd rfl h
  (refine go ?_)
  refine J_dA 0 rfl ?_
  rintro ⟨D, hRel⟩
  (first | refine J_callE rfl rfl rfl rfl (Open_any bd nmJ A2 (by decide) (by rw [hI2.states]; simp) (by omega)) entA ?_ (fun _ _ _ _ _ => trivial) | refine J_call0E rfl rfl rfl (Open_any bd nmJ A2 (by decide) (by rw [hI2.states]; simp) (by omega)) entA ?_ (fun _ _ _ _ _ => trivial) | (refine go ?_; first | refine J_callE rfl rfl rfl rfl (Open_any bd nmJ A2 (by decide) (by rw [hI2.states]; simp) (by omega)) entA ?_ (fun _ _ _ _ _ => trivial) | refine J_call0E rfl rfl rfl (Open_any bd nmJ A2 (by decide) (by rw [hI2.states]; simp) (by omega)) entA ?_ (fun _ _ _ _ _ => trivial)))
  rintro _ _ ⟨e3, A3, x3, ho3, hpost3⟩
  obtain ⟨rfl, hfl3, rfl, ⟨g3, hI3⟩, hw3⟩ := hI2.reopen hRel.knownW nmJ_name nmJ_fresh nmJ_ne h4 hb5 (by omega) ho3
  rw [hfl3] at hpost3
  rcases hpost3 with ⟨h, -⟩ | ⟨-, jb3, lv3, rfl, rfl⟩
  · exact absurd rfl h
  (refine go ?_)
  (first | refine J_callE rfl rfl rfl rfl (Same_L lv2 (.slice va ls.length vc) ls ls cs X hcsl hcs (by omega)) entA ?_ (fun _ _ _ _ _ => trivial) | refine J_call0E rfl rfl rfl (Same_L lv2 (.slice va ls.length vc) ls ls cs X hcsl hcs (by omega)) entA ?_ (fun _ _ _ _ _ => trivial) | (refine go ?_; first | refine J_callE rfl rfl rfl rfl (Same_L lv2 (.slice va ls.length vc) ls ls cs X hcsl hcs (by omega)) entA ?_ (fun _ _ _ _ _ => trivial) | refine J_call0E rfl rfl rfl (Same_L lv2 (.slice va ls.length vc) ls ls cs X hcsl hcs (by omega)) entA ?_ (fun _ _ _ _ _ => trivial)))
  rintro _ _ ⟨rfl, rfl⟩
  (refine go ?_)
  (first | refine J_callE rfl rfl rfl rfl (Same_L lv3 (.slice va ls.length vc) ls ls cs X hcsl hcs (by omega)) entA ?_ (fun _ _ _ _ _ => trivial) | refine J_call0E rfl rfl rfl (Same_L lv3 (.slice va ls.length vc) ls ls cs X hcsl hcs (by omega)) entA ?_ (fun _ _ _ _ _ => trivial) | (refine go ?_; first | refine J_callE rfl rfl rfl rfl (Same_L lv3 (.slice va ls.length vc) ls ls cs X hcsl hcs (by omega)) entA ?_ (fun _ _ _ _ _ => trivial) | refine J_call0E rfl rfl rfl (Same_L lv3 (.slice va ls.length vc) ls ls cs X hcsl hcs (by omega)) entA ?_ (fun _ _ _ _ _ => trivial)))
  rintro _ _ ⟨rfl, rfl⟩
  rw [decide_eq_true (rfl : ls = ls)]
  (refine go ?_)
  (first | refine K_return hE Try.func5 rfl _ rfl ⟨rfl, rfl⟩ entA | refine K_fallEnd hE Try.func5 rfl _ rfl ⟨rfl, rfl⟩ entA)
end Go.Proofs.Ytpdmbmnhgcnelaa

/- journal, part o: lists of texts that came in, read off the given row's own reading. -/
set_option linter.unusedVariables false
set_option linter.unusedSimpArgs false
namespace Go.Proofs.Ytpdmbmnhgcnelaa
open Go Go.SL Go.RowKit Go.ChangeShapes Go.WideShapes
section
variable {H : Type} {enc : TypeId × Value → H} {W : World} {base : Nat} {spare : Nat → Bool} {held : Bool}
structure EB where
  a : Option Addr
  c : Nat
  bs : List UInt8
instance : Inhabited EB := ⟨⟨none, 0, []⟩⟩
def ebV (x : EB) : List Value := [.slice x.a x.bs.length x.c]
def ListsIn (X : HP) (v : Value) (l : List (List UInt8)) : Prop := LAt X v l ∧ l.length ≤ 9223372036854775807 ∧ ∀ x ∈ l, x.length ≤ 9223372036854775807
theorem open_eb (fuel : Nat) (cs : List Value) (x : DataW H × List MemPlace) (h : DataW.trod enc Try.prog W base spare held fuel 22 cs = some x) : ∃ y : EB, cs = ebV y ∧ (y.bs.length ≤ 9223372036854775807 ∧ BAt (old W) (.slice y.a y.bs.length y.c) y.bs) := by
  have hmx : maxLen = 9223372036854775807 := by decide
  rcases open_ints Try.underlying22 Try.underlying5 (by kernel_rfl) h with ⟨hcs, _⟩ | ⟨x, l, c, zs, hcs, _, hl, hm, hz, _, hcell, hwz⟩
  · subst hcs
    exact ⟨⟨none, 0, []⟩, rfl, by simp, nil_view W, none, 0, rfl, Nat.le_refl _⟩
  · subst hcs
    obtain ⟨bs, h1, h2⟩ := bytes_view (len := l) (cap := c) (by split at hz <;> omega) hcell hwz
    subst h1
    exact ⟨⟨some x, c, bs⟩, rfl, by simp only; omega, h2, _, c, rfl, hl⟩
theorem open_lists {fuel : Nat} {v : Value} {x : DataW H × List MemPlace} (h : DataW.trod enc Try.prog W base spare held fuel 24 [v] = some x) : ∃ l : List (List UInt8), ListsIn (old W) v l := by
  obtain ⟨l, a, c, hcs, h1, h2, h3⟩ := open_rows Try.underlying24 ebV 1 (by omega) (fun _ => rfl) (by kernel_rfl) (fun y : EB => y.bs.length ≤ 9223372036854775807 ∧ BAt (old W) (.slice y.a y.bs.length y.c) y.bs) open_eb h
  simp only [List.cons.injEq, and_true] at hcs
  subst hcs
  have hcap : l.length ≤ c := by
    rcases Go.Deep.open_slice Try.underlying24 h with ⟨hcs, _⟩ | ⟨a2, len, cap, m, n, D, Pl, hcs, hb, hl, hm, hmm, _, hx⟩
    · simp only [List.cons.injEq, and_true, Value.slice.injEq] at hcs; omega
    · simp only [List.cons.injEq, and_true, Value.slice.injEq] at hcs; omega
  have hf : l.flatMap ebV = l.map fun y => Value.slice y.a y.bs.length y.c := by
    clear h1 h2 h3 h hcap
    induction l with
    | nil => rfl
    | cons y l ih => rw [List.flatMap_cons, ih]; rfl
  refine ⟨l.map EB.bs, ⟨l.map fun y => Value.slice y.a y.bs.length y.c, ?_, by simp, ⟨a, c, by simp, by simpa using hcap⟩, fun i z hz => ?_⟩, by simpa using h3, fun z hz => ?_⟩
  · rw [List.length_map, ← hf]; exact h1
  · rw [List.getElem?_map] at hz
    cases hy : l[i]? with
    | none => rw [hy] at hz; cases hz
    | some y =>
      rw [hy] at hz
      cases hz
      exact ⟨_, by rw [List.getElem?_map, hy]; rfl, (h2 y (List.mem_of_getElem? hy)).2⟩
  · obtain ⟨y, hy, rfl⟩ := List.mem_map.1 hz
    exact (h2 y hy).1
end
end Go.Proofs.Ytpdmbmnhgcnelaa
