/- journal, part h: put. -/
import Derived.Test.YtpdmbmnhgcnelaaJg
set_option linter.unusedVariables false
set_option linter.unusedSimpArgs false
namespace Go.Proofs.Ytpdmbmnhgcnelaa
open Go Go.SL
attribute [local irreducible] J K Ctr Ends pts slc mapR mapI sbRow stock arrS loopP CtrY diskA

/-- The cells of a journal. -/
def jr (jb bd : Nat) (name : ByteArray) (n s c : Int) (br : Bool) : HP := pts jb (cl [ptr bd, .string name, .int .i64 n, .int .i64 s, .int .i64 c, .bool br] 93)
theorem flat_take {ls : List (List UInt8)} {i : Nat} {x : List UInt8} (h : ls[i]? = some x) : (ls.take (i + 1)).flatMap encL = (ls.take i).flatMap encL ++ encL x := by
  rw [List.take_add_one, h]; simp
theorem flat_le (ls : List (List UInt8)) (i : Nat) : ((ls.take i).flatMap encL).length ≤ (ls.flatMap encL).length := by
  conv => rhs; rw [← List.take_append_drop i ls, List.flatMap_append, List.length_append]
  omega
set_option maxRecDepth 20000 in
theorem put_any (jb bd : Nat) (name : ByteArray) (n s c : Int) (br : Bool) (A : Ab) (V : HP) (lv : Value) (ls : List (List UInt8)) (hv : LAt V lv ls) (hl : (ls.flatMap encL).length ≤ 500000000) (hln : ls.length ≤ 1000000000)
    (hname : name.size ≤ 1000000000) (hst : A.states.length ≤ 900000000) (hwr : A.writes.length ≤ 900000000) :
    Ctr Try.prog 44 [ptr jb, lv] [diskA bd A, jr jb bd name n s c br, V]
      (fun r H => ∃ (e : Nat) (y : PS), r = .int .i64 (e : Int) ∧ H = [diskA bd y.1, jr jb bd name y.2.1 y.2.2.1 y.2.2.2 br, V] ∧ PutR name ls (A, n, s, c) e y) := by
  obtain ⟨cs, hvw, hcl, ⟨a, cc, rfl, hc⟩, hel⟩ := hv
  unfold jr
  refine Ctr.enter Try.func44 (by kernel_rfl) rfl Try.ntmps44 rfl rfl ?_
  intro G F R hE
  (refine go ?_)
  refine J_box rfl rfl (fun _ _ _ => trivial) ?_
  intro xj
  (refine go ?_)
  refine J_strAdd rfl rfl rfl (by show name.size + 4 ≤ _; omega) ?_
  (refine go ?_)
  refine J_slot 17 (.string (freshOf name)) rfl rfl ?_
  generalize hfr : freshOf name = fresh
  refine J_alloc (U := tab) rfl rfl rfl (fun _ _ _ => trivial) ?_
  intro xf
  (refine go ?_)
  refine J_alloc (U := tab) rfl rfl rfl (fun _ _ _ => trivial) ?_
  intro xb
  (refine go ?_)
  refine K_ent (slc_lift 5 1 none _) ?_
  refine K_loop (fun y : Value × Nat => y.2 ≤ ls.length) (fun y => ls.length - y.2)
    (fun y => [(0, ptr jb), (2, ptr xj), (5, ptr xf), (6, ptr xb), (18, .slice a ls.length cc), (19, .int .i64 (ls.length : Int)), (20, .int .i64 (y.2 : Int))])
    (fun y => pts xb (cl [y.1] 22) :: slc 5 1 y.1 ((ls.take y.2).flatMap encL).length (bV ((ls.take y.2).flatMap encL)) :: pts xf (cl [.string fresh] 9) :: pts xj (cl [ptr jb] 36) :: diskA bd A :: pts jb (cl [ptr bd, .string name, .int .i64 n, .int .i64 s, .int .i64 c, .bool br] 93) :: V :: F) (.slice none 0 0, 0) (Nat.zero_le _) rfl (by repeat (first | exact keep_nil | refine keep_cons rfl ?_)) entA ?_
  rintro ⟨v, i⟩ hi ih
  simp only at hi
  (refine go ?_)
  refine K_condP rfl rfl ?_ ?_
  · intro hlt
    simp only at hlt
    have hil : i < ls.length := by omega
    obtain ⟨x, hx⟩ : ∃ x, ls[i]? = some x := ⟨ls[i], List.getElem?_eq_getElem hil⟩
    obtain ⟨cv, hcv, hb⟩ := hel i x hx
    obtain ⟨b0, o0, c0, he0⟩ := hvw.some (by intro h; rw [h] at hcv; simp at hcv)
    simp only [Value.slice.injEq] at he0
    obtain ⟨rfl, -, rfl⟩ := he0
    (refine go ?_)
    refine J_at1 (U := tab) i rfl rfl rfl rfl rfl rfl rfl rfl hil ?_
    obtain ⟨ax, cx, rfl, hcx⟩ := hb.2
    have hsum := flat_take hx
    have hsl : ((ls.take (i + 1)).flatMap encL).length = ((ls.take i).flatMap encL).length + (encL x).length := by rw [hsum, List.length_append]
    have hle := flat_le ls (i + 1)
    have hxl : x.length ≤ (encL x).length := by simp [encL]
    refine J_loadAt (U := tab) 6 i rfl rfl rfl hvw rfl hcv rfl rfl ?_
    (first | refine J_shape 1 rfl ?_ | refine K_shape 1 rfl ?_)
    intro av cv hvv
    simp only at hvv
    subst hvv
    (refine go ?_)
    refine K_drawA (fun w => Sat G w ([pts xb (cl [.slice av ((ls.take i).flatMap encL).length cv] 22)])) (.st 0 (.st 1 (.act 2 (.act 3 (.act 4 .nil))))) rfl (by kernel_rfl) (by kernel_rfl) (by kernel_rfl) (fun w hw => hw.ent entA) ?_
    (refine go ?_)
    (first | refine J_callE rfl rfl rfl rfl (encoded_any V _ x hb (by omega)) entA ?_ (fun _ _ w hp hw => by obtain rfl := hp; exact hw.ent entA) | refine J_call0E rfl rfl rfl (encoded_any V _ x hb (by omega)) entA ?_ (fun _ _ w hp hw => by obtain rfl := hp; exact hw.ent entA))
    rintro r _ rfl
    (first | refine J_shape 0 rfl ?_ | refine K_shape 0 rfl ?_)
    rintro ra rc rfl
    refine J_slcVw 0 rfl ?_
    intro hvr
    (refine go ?_)
    refine J_append (U := tab) (mm := (encL x).length) (news := bV (encL x)) 3 0 rfl rfl rfl rfl rfl rfl rfl rfl rfl rfl rfl rfl hvr (by show _ = _ * 1; rw [bV_length]; omega) (bV_one _) (by simp only; omega) (by show (_ + _) * 1 ≤ _; simp only; omega) (fun _ => rfl) (fun _ w hw => by exact hw.ent entA) ?_
    intro v1
    simp only
    rw [show bV ((ls.take i).flatMap encL) ++ bV (encL x) = bV ((ls.take (i + 1)).flatMap encL) from by rw [hsum]; simp [bV], ← hsl]
    (first | refine J_shape 3 rfl ?_ | refine K_shape 3 rfl ?_)
    rintro va vc rfl
    (refine go ?_)
    refine K_again ih (.slice va ((ls.take (i + 1)).flatMap encL).length vc, i + 1) rfl (by simp only; omega) (by simp only; omega) (by repeat (first | exact keep_nil | refine keep_cons rfl ?_)) entA
  intro hge
  simp only at hge
  have hi' : i = ls.length := by omega
  subst hi'
  rw [List.take_length]
  (first | refine J_shape 1 rfl ?_ | refine K_shape 1 rfl ?_)
  intro av cv hvv
  simp only at hvv
  subst hvv
  obtain ⟨B, hB⟩ : ∃ B, B = ls.flatMap encL := ⟨_, rfl⟩
  rw [← hB] at hl ⊢
  have hhl : (headL 1 B.length).length = 16 := headL_len _ _
  have hwl : (wholeOf ls) = List.replicate 16 0 ++ headL 1 B.length ++ B := by rw [hB]; rfl
  obtain ⟨W, hW⟩ : ∃ W, W = wholeOf ls := ⟨_, rfl⟩
  rw [← hW] at hwl
  have hWl : W.length = 32 + B.length := by rw [hwl]; simp only [List.length_append, List.length_replicate, hhl]
  have hcon : ∀ (m : Nat) (ra : Option Addr) (rc row : Nat), BAt (slc 5 1 (.slice ra (headL 1 B.length).length rc) (headL 1 B.length).length (bV (headL 1 B.length))) (.slice ra (headL 1 B.length).length rc) (headL 1 B.length) →
      BAt (slc 5 1 (.slice av B.length cv) B.length (bV B)) (.slice av B.length cv) B → Ctr Try.prog 66 [.slice (some ⟨row, 0, none⟩) 3 3]
      [Sep [pts row (cl [.slice (some ⟨m, 0, none⟩) 16 16, .slice ra (headL 1 B.length).length rc, .slice av B.length cv] 22), pts m (cl (bV (List.replicate 16 0)) 5), slc 5 1 (.slice ra (headL 1 B.length).length rc) (headL 1 B.length).length (bV (headL 1 B.length)), slc 5 1 (.slice av B.length cv) B.length (bV B)]]
      (fun r H => H = [slc 5 1 r W.length (bV W), Sep [pts row (cl [.slice (some ⟨m, 0, none⟩) 16 16, .slice ra (headL 1 B.length).length rc, .slice av B.length cv] 22), pts m (cl (bV (List.replicate 16 0)) 5), slc 5 1 (.slice ra (headL 1 B.length).length rc) (headL 1 B.length).length (bV (headL 1 B.length)), slc 5 1 (.slice av B.length cv) B.length (bV B)]]) := by
    intro m ra rc row hb1 hb2
    have hfl : [List.replicate 16 0, headL 1 B.length, B].flatten = W := by rw [hwl]; simp only [List.flatten_cons, List.flatten_nil, List.append_nil, List.append_assoc]
    have := Concat_any (Sep [pts row (cl [.slice (some ⟨m, 0, none⟩) 16 16, .slice ra (headL 1 B.length).length rc, .slice av B.length cv] 22), pts m (cl (bV (List.replicate 16 0)) 5), slc 5 1 (.slice ra (headL 1 B.length).length rc) (headL 1 B.length).length (bV (headL 1 B.length)), slc 5 1 (.slice av B.length cv) B.length (bV B)]) (.slice (some ⟨row, 0, none⟩) 3 3) [List.replicate 16 0, headL 1 B.length, B]
      ⟨[.slice (some ⟨m, 0, none⟩) 16 16, .slice ra (headL 1 B.length).length rc, .slice av B.length cv], (Vw.pts rfl).mono (Sep_get (i := 0) rfl), rfl, ⟨_, _, rfl, Nat.le_refl 3⟩, fun i x hx => by
        match i, hx with
        | 0, hx => cases hx; exact ⟨_, rfl, ⟨(Vw.pts (b := m) (l := bV (List.replicate 16 0)) (e := 5) rfl).mono (Sep_get (i := 1) rfl), _, _, rfl, by decide⟩⟩
        | 1, hx => cases hx; exact ⟨_, rfl, hb1.mono (Sep_get (i := 2) rfl)⟩
        | 2, hx => cases hx; exact ⟨_, rfl, hb2.mono (Sep_get (i := 3) rfl)⟩
        | k + 3, hx => simp at hx⟩ (by rw [hfl, hWl]; omega) (by show 3 ≤ _; omega)
    rw [hfl] at this
    exact this
  refine K_slcB (bs := B) 1 rfl ?_
  intro hb2
  refine K_adv1 rfl ?_
  refine K_mid 1 (fun y : Option Addr × Nat × Nat => True) (fun y => [(0, ptr jb), (2, ptr xj), (5, ptr xf), (6, ptr xb), (9, ptr y.2.2)]) (fun y => pts y.2.2 (cl [.slice y.1 W.length y.2.1] 22) :: slc 5 1 (.slice y.1 W.length y.2.1) W.length (bV W) :: pts xb (cl [.slice av B.length cv] 22) :: pts xf (cl [.string fresh] 9) :: pts xj (cl [ptr jb] 36) :: diskA bd A :: pts jb (cl [ptr bd, .string name, .int .i64 n, .int .i64 s, .int .i64 c, .bool br] 93) :: V :: F) rfl ?_ ?_
  rotate_left
  · intro tail
    refine K_drawA (fun w => Sat G w ([pts xb (cl [.slice av B.length cv] 22)])) (.st 1 (.st 2 (.st 4 (.fork (.fork (.act 0 (.fork (.act 3 (.fork (.act 5 (.fork (.act 6 (.act 7 (.act 8 .nil))) (.act 7 (.act 6 (.act 8 .nil))))) (.act 7 (.act 5 (.act 6 (.act 8 .nil)))))) (.act 7 (.act 3 (.act 5 (.act 6 (.act 8 .nil))))))) (.act 3 (.fork (.act 0 (.fork (.act 5 (.fork (.act 6 (.act 7 (.act 8 .nil))) (.act 7 (.act 6 (.act 8 .nil))))) (.act 7 (.act 5 (.act 6 (.act 8 .nil)))))) (.act 7 (.act 0 (.act 5 (.act 6 (.act 8 .nil)))))))) (.act 7 (.fork (.act 0 (.act 3 (.act 5 (.act 6 (.act 8 .nil))))) (.act 3 (.act 0 (.act 5 (.act 6 (.act 8 .nil))))))))))) rfl (by kernel_rfl) (by kernel_rfl) (by kernel_rfl) (fun w hw => hw.ent entA) ?_
    repeat' (first
      | refine J_fork ?_ ?_
      | (refine J_makeSlice (U := tab) (p := 16) (q := 16) rfl rfl rfl rfl rfl rfl rfl rfl rfl (by omega) (by omega) (by show 1 * 16 ≤ _; omega) (fun _ w hw => by exact hw.ent entA) ?_; intro m)
      | ((first | refine J_callE rfl rfl rfl rfl (head_any 1 B.length (by omega) (by omega)) entA ?_ (fun _ _ w hp hw => by obtain rfl := hp; exact hw.ent entA) | refine J_call0E rfl rfl rfl (head_any 1 B.length (by omega) (by omega)) entA ?_ (fun _ _ w hp hw => by obtain rfl := hp; exact hw.ent entA)); rintro _ _ rfl; (first | refine J_shape 0 rfl ?_ | refine K_shape 0 rfl ?_); rintro ra rc rfl; refine J_slcB (bs := headL 1 B.length) 0 rfl ?_; intro hb1)
      | (refine J_buildSlice1 (U := tab) rfl rfl rfl rfl rfl rfl rfl rfl rfl (fun _ w hw => by exact hw.ent entA) ?_; intro row)
      | (refine J_alloc (U := tab) rfl rfl rfl (fun _ w hw => by exact hw.ent entA) ?_; intro x9)
      | (refine J_callE rfl rfl rfl rfl (hcon m ra rc row hb1 hb2) (Ent.trans entA (Ent.resep [_, _, _, _] _)) ?_ (fun _ _ w hp hw => by obtain rfl := hp; exact hw.ent entA); rintro _ _ rfl; (first | refine J_shape 0 rfl ?_ | refine K_shape 0 rfl ?_); rintro wa wc rfl)
      | (refine J_isStore ?_; (first | refine J_store (U := tab) 0 (fun _ _ => trivial) rfl rfl rfl rfl rfl rfl rfl rfl rfl ?_ | refine J_store (U := tab) 1 (fun _ _ => trivial) rfl rfl rfl rfl rfl rfl rfl rfl rfl ?_ | refine J_store (U := tab) 2 (fun _ _ => trivial) rfl rfl rfl rfl rfl rfl rfl rfl rfl ?_ | refine J_store (U := tab) 3 (fun _ _ => trivial) rfl rfl rfl rfl rfl rfl rfl rfl rfl ?_); refine J_end ?_; refine K_to tail (wa, wc, x9) rfl trivial (by repeat (first | exact keep_nil | refine keep_cons rfl ?_)) entA)
      | (refine go1 ?_)
      | fail)
  rintro ⟨wa, wc, x9⟩ -
  simp only
  (refine go ?_)
  refine K_drawA (fun w => Sat G w ([pts jb (cl [ptr bd, .string name, .int .i64 n, .int .i64 s, .int .i64 c, .bool br] 93), pts xj (cl [ptr jb] 36), pts xf (cl [.string fresh] 9)])) (.st 0 (.st 1 (.st 2 (.st 3 (.st 4 (.act 5 (.st 6 (.st 7 (.st 8 (.st 9 (.st 10 .nil))))))))))) rfl (by kernel_rfl) (by kernel_rfl) (by kernel_rfl) (fun w hw => hw.ent entA) ?_
  (refine go ?_)
  (first | refine J_callE rfl rfl rfl rfl (Size_dA bd A fresh) entA ?_ (fun _ _ w hp hw => by obtain ⟨rfl, rfl⟩ := hp; exact hw.ent entA) | refine J_call0E rfl rfl rfl (Size_dA bd A fresh) entA ?_ (fun _ _ w hp hw => by obtain ⟨rfl, rfl⟩ := hp; exact hw.ent entA))
  rintro _ _ ⟨rfl, rfl⟩
  (refine go ?_)
  refine K_mid 1 (fun y : Value × List Value => y.2 = if (A.size fresh).2 = 0 then [.func (.func 67) #[] #[ptr xj, ptr xf] ] else []) (fun y => [(0, ptr jb), (2, ptr xj), (5, ptr xf), (6, ptr xb), (9, ptr x9), (10, y.1)]) (fun y => pts xj (cl [ptr jb] 36) :: pts jb (cl [ptr bd, .string name, .int .i64 n, .int .i64 s, .int .i64 c, .bool br] 93) :: slc 46 1 y.1 y.2.length y.2 :: pts x9 (cl [.slice wa W.length wc] 22) :: slc 5 1 (.slice wa W.length wc) W.length (bV W) :: pts xb (cl [.slice av B.length cv] 22) :: pts xf (cl [.string fresh] 9) :: diskA bd A :: V :: F) rfl ?_ ?_
  rotate_left
  · intro tail
    refine K_ent (slc_lift 46 1 none _) ?_
    refine K_condP rfl rfl ?_ ?_
    · intro he
      (refine go ?_)
      refine J_buildSlice1 (U := tab) rfl rfl rfl rfl rfl rfl rfl rfl rfl (fun _ _ _ => trivial) ?_
      intro row
      (refine go ?_)
      refine J_append (U := tab) (mm := 1) (news := [.func (.func 67) #[] #[ptr xj, ptr xf]]) 1 0 rfl rfl rfl rfl rfl rfl rfl rfl rfl rfl rfl rfl (Vw.pts rfl) rfl (by simp [Value.oneCell']) (by omega) (by show (0 + 1) * 8 ≤ _; omega) (fun _ => rfl) (fun _ _ _ => trivial) ?_
      intro v1
      (first | refine J_shape 1 rfl ?_ | refine K_shape 1 rfl ?_)
      rintro va vc rfl
      (refine goR ?_)
      refine K_to tail (.slice va (0 + 1) vc, [.func (.func 67) #[] #[ptr xj, ptr xf] ]) rfl (by rw [if_pos (by omega)]) (by repeat (first | exact keep_nil | refine keep_cons rfl ?_)) entA
    · intro he
      refine K_to tail (.slice none 0 0, []) rfl (by rw [if_neg (by omega)]) (by repeat (first | exact keep_nil | refine keep_cons rfl ?_)) entA
  rintro ⟨sv, fv⟩ hfv
  simp only at hfv ⊢
  (first | refine J_shape 2 rfl ?_ | refine K_shape 2 rfl ?_)
  rintro va vc rfl
  (refine go ?_)
  have hfl : fv.length ≤ 1 := by rw [hfv]; split <;> simp
  refine J_buildSlice1 (U := tab) (cs := [.func (.func 69) #[] #[ptr xj, ptr xf], .func (.func 70) #[] #[ptr xj, ptr xf, ptr x9], .func (.func 71) #[] #[ptr xj, ptr xf], .func (.func 72) #[] #[ptr xj, ptr xf], .func (.func 74) #[ptr bd] #[], .func (.func 75) #[] #[ptr xb, ptr xj] ]) rfl rfl rfl rfl rfl rfl rfl rfl rfl (fun _ _ _ => trivial) ?_
  intro row
  (refine go ?_)
  refine J_append (U := tab) (mm := 6) (news := [.func (.func 69) #[] #[ptr xj, ptr xf], .func (.func 70) #[] #[ptr xj, ptr xf, ptr x9], .func (.func 71) #[] #[ptr xj, ptr xf], .func (.func 72) #[] #[ptr xj, ptr xf], .func (.func 74) #[ptr bd] #[], .func (.func 75) #[] #[ptr xb, ptr xj] ]) 3 0 rfl rfl rfl rfl rfl rfl rfl rfl rfl rfl rfl rfl (Vw.pts rfl) rfl (by simp [Value.oneCell']) (by omega) (by show (_ + 6) * 8 ≤ _; omega) (fun _ => rfl) (fun _ _ _ => trivial) ?_
  intro v1
  refine J_slcVw 3 rfl ?_
  intro hv1
  obtain ⟨fs, hfs⟩ : ∃ fs, fs = fv ++ [.func (.func 69) #[] #[ptr xj, ptr xf], .func (.func 70) #[] #[ptr xj, ptr xf, ptr x9], .func (.func 71) #[] #[ptr xj, ptr xf], .func (.func 72) #[] #[ptr xj, ptr xf], .func (.func 74) #[ptr bd] #[], .func (.func 75) #[] #[ptr xb, ptr xj] ] := ⟨_, rfl⟩
  rw [← hfs] at hv1 ⊢
  have hfsl : fs.length = fv.length + 6 := by rw [hfs, List.length_append]; rfl
  rw [← hfsl] at hv1 ⊢
  have hpl : (putSteps name ls A).length = fs.length := by
    rw [hfsl, hfv]; unfold putSteps; rw [hfr]
    split <;> rfl
  have hWb : W.length ≤ 1000000000 := by omega
  have hst1 : ∀ (i : Nat) (fv : Value) (s : PS → Nat → PS → Prop), fs[i]? = some fv → (putSteps name ls A)[i]? = some s → ∃ g fi cap, fv = .func (.func g) fi cap ∧ ∀ x, PQ i x → Ctr Try.prog g (fi.toList ++ cap.toList) [PI bd jb xj xf x9 xb name fresh wa av wc B.length cv W br x] (fun r H => ∃ (e : Nat) (x' : PS), r = .int .i64 (e : Int) ∧ H = [PI bd jb xj xf x9 xb name fresh wa av wc B.length cv W br x'] ∧ s x e x' ∧ (e = 0 → PQ (i + 1) x')) := by
    intro i f1 s1 h1 h2
    have hi : i < fs.length := (List.getElem?_eq_some_iff.1 h1).1
    have hi10 : i ≤ 10 := by omega
    unfold putSteps at h2
    rw [hfr, ← hW, ← hB] at h2
    rw [hfs, hfv] at h1
    by_cases hz : (A.size fresh).2 = 0
    · rw [if_pos hz] at h1 h2
      match i, h1, h2 with
      | 0, h1, h2 => cases h1; cases h2; exact ⟨_, _, _, rfl, fun x hq => put1_I _ _ _ _ _ _ _ _ _ _ _ _ _ _ _ _ hi10 x hq⟩
      | 1, h1, h2 => cases h1; cases h2; exact ⟨_, _, _, rfl, fun x hq => put2_I _ _ _ _ _ _ _ _ _ _ _ _ _ _ _ _ hi10 x hq⟩
      | 2, h1, h2 => cases h1; cases h2; exact ⟨_, _, _, rfl, fun x hq => put3_I _ _ _ _ _ _ _ _ _ _ _ _ _ _ _ _ hi10 hWb x hq⟩
      | 3, h1, h2 => cases h1; cases h2; exact ⟨_, _, _, rfl, fun x hq => put4_I _ _ _ _ _ _ _ _ _ _ _ _ _ _ _ _ hi10 x hq⟩
      | 4, h1, h2 => cases h1; cases h2; exact ⟨_, _, _, rfl, fun x hq => put5_I _ _ _ _ _ _ _ _ _ _ _ _ _ _ _ _ hi10 x hq⟩
      | 5, h1, h2 => cases h1; cases h2; exact ⟨_, _, _, rfl, fun x hq => putN_I _ _ _ _ _ _ _ _ _ _ _ _ _ _ _ _ x hq⟩
      | 6, h1, h2 => cases h1; cases h2; exact ⟨_, _, _, rfl, fun x hq => put6_I _ _ _ _ _ _ _ _ _ _ _ _ _ _ _ _ x hq⟩
      | k + 7, h1, h2 => simp at h1
    · rw [if_neg hz] at h1 h2
      match i, h1, h2 with
      | 0, h1, h2 => cases h1; cases h2; exact ⟨_, _, _, rfl, fun x hq => put2_I _ _ _ _ _ _ _ _ _ _ _ _ _ _ _ _ hi10 x hq⟩
      | 1, h1, h2 => cases h1; cases h2; exact ⟨_, _, _, rfl, fun x hq => put3_I _ _ _ _ _ _ _ _ _ _ _ _ _ _ _ _ hi10 hWb x hq⟩
      | 2, h1, h2 => cases h1; cases h2; exact ⟨_, _, _, rfl, fun x hq => put4_I _ _ _ _ _ _ _ _ _ _ _ _ _ _ _ _ hi10 x hq⟩
      | 3, h1, h2 => cases h1; cases h2; exact ⟨_, _, _, rfl, fun x hq => put5_I _ _ _ _ _ _ _ _ _ _ _ _ _ _ _ _ hi10 x hq⟩
      | 4, h1, h2 => cases h1; cases h2; exact ⟨_, _, _, rfl, fun x hq => putN_I _ _ _ _ _ _ _ _ _ _ _ _ _ _ _ _ x hq⟩
      | 5, h1, h2 => cases h1; cases h2; exact ⟨_, _, _, rfl, fun x hq => put6_I _ _ _ _ _ _ _ _ _ _ _ _ _ _ _ _ x hq⟩
      | k + 6, h1, h2 => simp at h1
  have hall := all_any (PI bd jb xj xf x9 xb name fresh wa av wc B.length cv W br) (slc 46 1 v1 fs.length fs) v1 fs hv1 (by omega) (putSteps name ls A) hpl PQ hst1 (A, n, s, c) ⟨by simp only; omega, by simp only; omega⟩
  (first | refine J_shape 3 rfl ?_ | refine K_shape 3 rfl ?_)
  rintro va2 vc2 rfl
  (refine go ?_)
  refine J_callE rfl rfl rfl rfl hall (Ent.trans entA (Ent.cons _ (Ent.resep [diskA bd A, pts jb (cl [ptr bd, .string name, .int .i64 n, .int .i64 s, .int .i64 c, .bool br] 93), pts xj (cl [ptr jb] 36), pts xf (cl [.string fresh] 9), pts x9 (cl [.slice wa W.length wc] 22), pts xb (cl [.slice av B.length cv] 22), slc 5 1 (.slice wa W.length wc) W.length (bV W)] _))) ?_ (fun _ _ _ _ _ => trivial)
  rintro _ _ ⟨e, y, rfl, rfl, hr⟩
  refine J_ent (Ent.trans (Ent.pick [1] rfl) (Ent.unsep [diskA bd y.1, pts jb (cl [ptr bd, .string name, .int .i64 y.2.1, .int .i64 y.2.2.1, .int .i64 y.2.2.2, .bool br] 93), pts xj (cl [ptr jb] 36), pts xf (cl [.string fresh] 9), pts x9 (cl [.slice wa W.length wc] 22), pts xb (cl [.slice av B.length cv] 22), slc 5 1 (.slice wa W.length wc) W.length (bV W)] _)) ?_
  (refine go ?_)
  (first | refine K_return hE Try.func44 rfl _ rfl ⟨e, y, rfl, rfl, hr⟩ entA | refine K_fallEnd hE Try.func44 rfl _ rfl ⟨e, y, rfl, rfl, hr⟩ entA)
end Go.Proofs.Ytpdmbmnhgcnelaa
