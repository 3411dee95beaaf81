/- Texts of one claim, joined: Be, Bf, Bg, Bh, Bi, Bj, Bk, Bp, Bq. -/
import Derived.Test.YtpecmnaikjbanaaGreatDoorQBL10
/- blobs, part e: Open. -/
set_option linter.unusedVariables false
set_option linter.unusedSimpArgs false
namespace Go.Proofs.YtpecmnaikjbanaaGreatDoor
open Go Go.SL
attribute [local irreducible] J K Ctr Ends pts slc mapR mapI sbRow stock arrS loopP CtrY Sha.chunks Sha.chunk Sha.rounds Sha.sched sumL taggedL GI leafL diskA
theorem ctr_sep {P : Program} {f : FuncId} {args : List Value} {l : List HP} {p : Value → Prop} (h : Ctr P f args l (fun r H => p r ∧ H = l)) : Ctr P f args [Sep l] (fun r H => p r ∧ H = [Sep l]) :=
 h.conv (by have := Ent.unsep l []; rwa [List.append_nil] at this) (by intro v H hh; obtain ⟨hp, hH⟩ := hh; exact ⟨[Sep l], ⟨hp, rfl⟩, by rw [hH]; have := Ent.resep l []; rwa [List.append_nil] at this⟩)
theorem rightWhole (X : HP) (hK : KAt X) (bs bd : Nat) (q : Int) (mb : Nat) (brk : Bool) : RightC 47 [ptr bs] (stX bs bd q mb brk X) wholeF := fun A d => ctr_sep (p := fun r => r = .bool (wholeF A d)) (whole_any X hK bs bd q mb brk A d)
theorem rightComplete (X : HP) (hK : KAt X) (bs bd : Nat) (q : Int) (mb : Nat) (brk : Bool) : RightC 50 [ptr bs] (stX bs bd q mb brk X) completeF := fun A d => ctr_sep (p := fun r => r = .bool (completeF A d)) (complete_any X hK bs bd q mb brk A d)
theorem rightNever (Y : Ab → HP) : RightC 43 [] Y (fun _ _ => false) := fun A d => by
 show Ctr Tryz.prog 43 [dV d] [Y A] _
 unfold dV
 refine Ctr.enter Tryz.func43 (by kernel_rfl) rfl Tryz.ntmps43 rfl rfl ?_
 intro G F R hE
 refine K_regionA rfl ?_
 refine J_box rfl rfl (fun _ _ _ => trivial) ?_
 intro b1
 refine go ?_
 (first | refine K_return hE Tryz.func43 rfl _ rfl ⟨rfl, rfl⟩ entA | refine K_fallEnd hE Tryz.func43 rfl _ rfl ⟨rfl, rfl⟩ entA)
def opX (bs bd b6 b8 : Nat) (q : Int) (mb : Nat) (X : HP) (A : Ab) : HP := Sep [stX bs bd q mb false X A, pts b6 (cl [ptr bs] 35), pts b8 (cl [.func (.func 43) #[] #[] ] 45)]
theorem open2_any (X : HP) (hK : KAt X) (bs bd b6 b8 : Nat) (q : Int) (mb : Nat) (A : Ab) (hst : A.states.length ≤ 900000000) : Ctr Tryz.prog 45 [ptr b6] [opX bs bd b6 b8 q mb X A]
  (fun r H => ∃ (e : Nat) (B : Ab), r = .int .i64 (e : Int) ∧ H = [opX bs bd b6 b8 q mb X B] ∧ stScrub kB wholeF A e B ∧ B.states.length ≤ A.states.length + 200) := by
 refine Ctr.enter Tryz.func45 (by kernel_rfl) rfl Tryz.ntmps45 rfl rfl ?_
 intro G F R hE
 refine K_ent (Ent.unsep [_, _, _] _) ?_
 refine go ?_
 ((try refine go ?_); first | refine J_callE rfl rfl rfl rfl (scrub_any bs bd q mb false X kB (by decide) _ [ptr bs] wholeF (rightWhole X hK bs bd q mb false) A hst) entA ?_ (fun _ _ _ _ _ => trivial) | refine J_call0E rfl rfl rfl (scrub_any bs bd q mb false X kB (by decide) _ [ptr bs] wholeF (rightWhole X hK bs bd q mb false) A hst) entA ?_ (fun _ _ _ _ _ => trivial))
 rintro _ _ ⟨e, B, rfl, rfl, h1, h2⟩
 refine go ?_
 refine K_ent (Ent.resep [stX bs bd q mb false X B, _, _] _) ?_
 (first | refine K_return hE Tryz.func45 rfl _ rfl ⟨e, B, rfl, rfl, h1, h2⟩ entA | refine K_fallEnd hE Tryz.func45 rfl _ rfl ⟨e, B, rfl, rfl, h1, h2⟩ entA)
theorem open3_any (X : HP) (bs bd b6 b8 : Nat) (q : Int) (mb : Nat) (A : Ab) (hst : A.states.length ≤ 900000000) : Ctr Tryz.prog 48 [ptr b6, ptr b8] [opX bs bd b6 b8 q mb X A]
  (fun r H => ∃ (e : Nat) (B : Ab), r = .int .i64 (e : Int) ∧ H = [opX bs bd b6 b8 q mb X B] ∧ stScrub kN (fun _ _ => false) A e B ∧ B.states.length ≤ A.states.length + 200) := by
 refine Ctr.enter Tryz.func48 (by kernel_rfl) rfl Tryz.ntmps48 rfl rfl ?_
 intro G F R hE
 refine K_ent (Ent.unsep [_, _, _] _) ?_
 refine go ?_
 ((try refine go ?_); first | refine J_callE rfl rfl rfl rfl (scrub_any bs bd q mb false X kN (by decide) _ [] (fun _ _ => false) (rightNever _) A hst) entA ?_ (fun _ _ _ _ _ => trivial) | refine J_call0E rfl rfl rfl (scrub_any bs bd q mb false X kN (by decide) _ [] (fun _ _ => false) (rightNever _) A hst) entA ?_ (fun _ _ _ _ _ => trivial))
 rintro _ _ ⟨e, B, rfl, rfl, h1, h2⟩
 refine go ?_
 refine K_ent (Ent.resep [stX bs bd q mb false X B, _, _] _) ?_
 (first | refine K_return hE Tryz.func48 rfl _ rfl ⟨e, B, rfl, rfl, h1, h2⟩ entA | refine K_fallEnd hE Tryz.func48 rfl _ rfl ⟨e, B, rfl, rfl, h1, h2⟩ entA)
theorem open4_any (X : HP) (hK : KAt X) (bs bd b6 b8 : Nat) (q : Int) (mb : Nat) (A : Ab) (hst : A.states.length ≤ 900000000) : Ctr Tryz.prog 49 [ptr b6] [opX bs bd b6 b8 q mb X A]
  (fun r H => ∃ (e : Nat) (B : Ab), r = .int .i64 (e : Int) ∧ H = [opX bs bd b6 b8 q mb X B] ∧ stScrub kI completeF A e B ∧ B.states.length ≤ A.states.length + 200) := by
 refine Ctr.enter Tryz.func49 (by kernel_rfl) rfl Tryz.ntmps49 rfl rfl ?_
 intro G F R hE
 refine K_ent (Ent.unsep [_, _, _] _) ?_
 refine go ?_
 ((try refine go ?_); first | refine J_callE rfl rfl rfl rfl (scrub_any bs bd q mb false X kI (by decide) _ [ptr bs] completeF (rightComplete X hK bs bd q mb false) A hst) entA ?_ (fun _ _ _ _ _ => trivial) | refine J_call0E rfl rfl rfl (scrub_any bs bd q mb false X kI (by decide) _ [ptr bs] completeF (rightComplete X hK bs bd q mb false) A hst) entA ?_ (fun _ _ _ _ _ => trivial))
 rintro _ _ ⟨e, B, rfl, rfl, h1, h2⟩
 refine go ?_
 refine K_ent (Ent.resep [stX bs bd q mb false X B, _, _] _) ?_
 (first | refine K_return hE Tryz.func49 rfl _ rfl ⟨e, B, rfl, rfl, h1, h2⟩ entA | refine K_fallEnd hE Tryz.func49 rfl _ rfl ⟨e, B, rfl, rfl, h1, h2⟩ entA)
def begE (l : List (Dg × Bl)) : List (Dg × Value) := l.map fun x => (x.1, blV x.2)
theorem namesF_names (A : Ab) : (namesF A).length = A.names.length := by unfold namesF keysA; rw [List.length_map, sortB_len, List.length_map]
set_option maxRecDepth 20000 in
set_option maxHeartbeats 1000000 in
theorem Open_any' (X : HP) (hK : KAt X) (bd : Nat) (q : Int) (A : Ab) (hst : A.states.length ≤ 800000000) : Ctr Tryz.prog 13 [ptr bd, .int .i64 q] [diskA bd A, X]
  (fun r H => ((q < 1 ∨ 1073741824 < q) ∧ r = .tuple #[.pointer none, .int .i64 1] ∧ H = [diskA bd A, X]) ∨ (¬ (q < 1 ∨ 1073741824 < q) ∧ A.off = true ∧ r = .tuple #[.pointer none, .int .i64 7] ∧ H = [diskA bd A, X]) ∨
   (¬ (q < 1 ∨ 1073741824 < q) ∧ A.off = false ∧ ∃ (e : Nat) (B : Ab), OpenS A e B ∧ ((e ≠ 0 ∧ r = .tuple #[.pointer none, .int .i64 (e : Int)] ∧ H = [diskA bd B, X]) ∨
    (e = 0 ∧ B.states.length ≤ A.states.length + 601 ∧ ∃ bs mb, r = .tuple #[ptr bs, .int .i64 0] ∧ H = [pts bs (cl (stC bd q mb false) 92), mapR dV mb (begE []), diskA bd B, X])))) := by
 refine Ctr.enter Tryz.func13 (by kernel_rfl) rfl Tryz.ntmps13 rfl rfl ?_
 intro G F R hE
 refine K_diskA (bd := bd) (A := A) 0 rfl ?_
 intro hdk
 repeat' (first | (with_reducible intro _hh) | refine go1 ?_ | refine J_fork ?_ ?_ | refine J_gsP rfl rfl rfl rfl ?_ ?_ | refine K_condP rfl rfl ?_ ?_ | (refine J_callE rfl rfl rfl rfl (Off_dA bd A) entA ?_ (fun _ _ _ _ _ => trivial); rintro _ _ ⟨rfl, rfl⟩))
 ·(first | refine K_return hE Tryz.func13 rfl _ rfl (.inl ⟨.inl (by omega), rfl, rfl⟩) entA | refine K_fallEnd hE Tryz.func13 rfl _ rfl (.inl ⟨.inl (by omega), rfl, rfl⟩) entA)
 ·(first | refine K_return hE Tryz.func13 rfl _ rfl (.inl ⟨.inr (by omega), rfl, rfl⟩) entA | refine K_fallEnd hE Tryz.func13 rfl _ rfl (.inl ⟨.inr (by omega), rfl, rfl⟩) entA)
 have hq : ¬ (q < 1 ∨ 1073741824 < q) := by omega
 cases hoff : A.off with
 | true =>
  refine go ?_
  (first | refine K_return hE Tryz.func13 rfl _ rfl (.inr (.inl ⟨hq, hoff, rfl, rfl⟩)) entA | refine K_fallEnd hE Tryz.func13 rfl _ rfl (.inr (.inl ⟨hq, hoff, rfl, rfl⟩)) entA)
 | false =>
  rw [hoff] at hE
  refine go ?_
  refine J_makeMap rfl (fun _ _ _ => trivial) ?_
  intro mb
  refine J_ent (Ent.fold (B := [_]) (A := mapR dV mb (begE [])) (fun h hs => ⟨h, sub.refl h, mapR_new dV mb h (Sep_one hs)⟩)) ?_
  refine go ?_
  refine J_box rfl rfl (fun _ _ _ => trivial) ?_
  intro bs
  refine J_alloc (U := tab) rfl rfl rfl (fun _ _ _ => trivial) ?_
  intro b6
  refine go ?_
  ((try refine go ?_); first | refine J_callE rfl rfl rfl rfl (Names_dB bd A) entA ?_ (fun _ _ _ _ _ => trivial) | refine J_call0E rfl rfl rfl (Names_dB bd A) entA ?_ (fun _ _ _ _ _ => trivial))
  rintro r _ rfl
  (first | refine J_shape 0 rfl ?_ | refine K_shape 0 rfl ?_)
  rintro ra rc rfl
  refine go ?_
  refine J_alloc (U := tab) rfl rfl rfl (fun _ _ _ => trivial) ?_
  intro b8
  refine go ?_
  refine J_buildSlice1 (U := tab) (cs := [.func (.func 45) #[] #[ptr b6], .func (.func 48) #[] #[ptr b6, ptr b8], .func (.func 49) #[] #[ptr b6] ]) rfl rfl rfl rfl rfl rfl rfl rfl rfl (fun _ _ _ => trivial) ?_
  intro row
  refine J_ent (H' := pts row (cl [.func (.func 45) #[] #[ptr b6], .func (.func 48) #[] #[ptr b6, ptr b8], .func (.func 49) #[] #[ptr b6] ] 95) :: opX bs bd b6 b8 q mb X A :: mapR dV mb (begE []) :: F) (Ent.trans (H2 := pts bs (cl (stC bd q mb false) 92) :: diskA bd A :: X :: pts b6 (cl [ptr bs] 35) :: pts b8 (cl [.func (.func 43) #[] #[] ] 45) :: pts row (cl [.func (.func 45) #[] #[ptr b6], .func (.func 48) #[] #[ptr b6, ptr b8], .func (.func 49) #[] #[ptr b6] ] 95) :: mapR dV mb (begE []) :: F) entA (Ent.trans (Ent.resep [pts bs (cl (stC bd q mb false) 92), diskA bd A, X] _) (Ent.trans (Ent.resep [stX bs bd q mb false X A, pts b6 (cl [ptr bs] 35), pts b8 (cl [.func (.func 43) #[] #[] ] 45)] _) entA))) ?_
  have hst1 : ∀ (i : Nat) (fv : Value) (sp : Ab → Nat → Ab → Prop), [.func (.func 45) #[] #[ptr b6], .func (.func 48) #[] #[ptr b6, ptr b8], .func (.func 49) #[] #[ptr b6] ][i]? = some fv → [stScrub kB wholeF, stScrub kN (fun _ _ => false), stScrub kI completeF][i]? = some sp → ∃ g fi cap, fv = .func (.func g) fi cap ∧ ∀ x : Ab, x.states.length ≤ A.states.length + 200 * i → Ctr Tryz.prog g (fi.toList ++ cap.toList) [opX bs bd b6 b8 q mb X x] (fun r H => ∃ (e : Nat) (x' : Ab), r = .int .i64 (e : Int) ∧ H = [opX bs bd b6 b8 q mb X x'] ∧ sp x e x' ∧ (e = 0 → x'.states.length ≤ A.states.length + 200 * (i + 1))) := by
   intro i fv sp hi hs
   match i, hi, hs with
   | 0, hi, hs =>
    cases hi; cases hs
    refine ⟨_, _, _, rfl, fun x hx => (open2_any X hK bs bd b6 b8 q mb x (by omega)).post ?_⟩
    rintro r H ⟨e, B, rfl, rfl, h1, h2⟩
    exact ⟨e, B, rfl, rfl, h1, fun _ => by omega⟩
   | 1, hi, hs =>
    cases hi; cases hs
    refine ⟨_, _, _, rfl, fun x hx => (open3_any X bs bd b6 b8 q mb x (by omega)).post ?_⟩
    rintro r H ⟨e, B, rfl, rfl, h1, h2⟩
    exact ⟨e, B, rfl, rfl, h1, fun _ => by omega⟩
   | 2, hi, hs =>
    cases hi; cases hs
    refine ⟨_, _, _, rfl, fun x hx => (open4_any X hK bs bd b6 b8 q mb x (by omega)).post ?_⟩
    rintro r H ⟨e, B, rfl, rfl, h1, h2⟩
    exact ⟨e, B, rfl, rfl, h1, fun _ => by omega⟩
   | k + 3, hi, hs => simp at hi
  have hall := all_any (opX bs bd b6 b8 q mb X) (pts row (cl [.func (.func 45) #[] #[ptr b6], .func (.func 48) #[] #[ptr b6, ptr b8], .func (.func 49) #[] #[ptr b6] ] 95)) (.slice (some ⟨row, 0, none⟩) 3 3) [.func (.func 45) #[] #[ptr b6], .func (.func 48) #[] #[ptr b6, ptr b8], .func (.func 49) #[] #[ptr b6] ] (Vw.pts rfl) (by show 3 ≤ _; omega) [stScrub kB wholeF, stScrub kN (fun _ _ => false), stScrub kI completeF] rfl (fun i x => x.states.length ≤ A.states.length + 200 * i) hst1 A (by simp)
  ((try refine go ?_); first | refine J_callE rfl rfl rfl rfl (hall) entA ?_ (fun _ _ _ _ _ => trivial) | refine J_call0E rfl rfl rfl (hall) entA ?_ (fun _ _ _ _ _ => trivial))
  rintro _ _ ⟨e, B, rfl, rfl, hruns, hb⟩
  refine J_ent (H' := pts bs (cl (stC bd q mb false) 92) :: diskA bd B :: X :: pts b6 (cl [ptr bs] 35) :: mapR dV mb (begE []) :: F) (Ent.trans (H2 := opX bs bd b6 b8 q mb X B :: mapR dV mb (begE []) :: F) entA (Ent.trans (Ent.unsep [stX bs bd q mb false X B, pts b6 (cl [ptr bs] 35), pts b8 (cl [.func (.func 43) #[] #[] ] 45)] _) (Ent.trans (Ent.unsep [pts bs (cl (stC bd q mb false) 92), diskA bd B, X] _) entA))) ?_
  by_cases he : e = 0
  ·subst he
   have hb' := hb rfl
   simp only [List.length_cons, List.length_nil] at hb'
   refine go ?_
   ((try refine go ?_); first | refine J_callE rfl rfl rfl rfl (Names_dB bd B) entA ?_ (fun _ _ _ _ _ => trivial) | refine J_call0E rfl rfl rfl (Names_dB bd B) entA ?_ (fun _ _ _ _ _ => trivial))
   rintro r2 _ rfl
   (first | refine J_shape 0 rfl ?_ | refine K_shape 0 rfl ?_)
   rintro ra2 rc2 rfl
   refine go ?_
   refine K_condP rfl rfl ?_ ?_
   ·intro hlt
    have hlt' : B.names.length < A.names.length := by
     have := namesF_names A
     have := namesF_names B
     omega
    have hsn := SyncNames_dA bd B
    obtain ⟨e2, B2, hse⟩ : ∃ e2 B2, B.syncNames = (e2, B2) := ⟨_, _, rfl⟩
    rw [hse] at hsn
    have hopen : OpenS A e2 B2 := ⟨0, B, hruns, by rw [if_pos ⟨rfl, hlt'⟩]; exact hse.symm⟩
    refine go ?_
    ((try refine go ?_); first | refine J_callE rfl rfl rfl rfl (hsn) entA ?_ (fun _ _ _ _ _ => trivial) | refine J_call0E rfl rfl rfl (hsn) entA ?_ (fun _ _ _ _ _ => trivial))
    rintro _ _ ⟨rfl, rfl⟩
    refine go ?_
    refine K_condP rfl rfl ?_ ?_
    ·intro hne
     have hne' : e2 ≠ 0 := by simp only at hne; omega
     refine go ?_
     (first | refine K_return hE Tryz.func13 rfl _ rfl (.inr (.inr ⟨hq, rfl, e2, B2, hopen, .inl ⟨hne', rfl, rfl⟩⟩)) entA | refine K_fallEnd hE Tryz.func13 rfl _ rfl (.inr (.inr ⟨hq, rfl, e2, B2, hopen, .inl ⟨hne', rfl, rfl⟩⟩)) entA)
    ·intro heq
     have heq' : e2 = 0 := by simp only at heq; omega
     subst heq'
     have hg : B2.states.length ≤ B.states.length + 1 := by
      have h1 : B2 = B.syncNames.2 := by rw [hse]
      rw [h1]
      exact (grow_syncNames B).1
     refine go ?_
     refine K_ent (H' := pts bs (cl (stC bd q mb false) 92) :: mapR dV mb (begE []) :: diskA bd B2 :: X :: F) entA ?_
     (first | refine K_return hE Tryz.func13 rfl _ rfl (.inr (.inr ⟨hq, rfl, 0, B2, hopen, .inr ⟨rfl, by omega, bs, mb, rfl, rfl⟩⟩)) entA | refine K_fallEnd hE Tryz.func13 rfl _ rfl (.inr (.inr ⟨hq, rfl, 0, B2, hopen, .inr ⟨rfl, by omega, bs, mb, rfl, rfl⟩⟩)) entA)
   ·intro hge
    have hlt' : ¬ B.names.length < A.names.length := by
     have := namesF_names A
     have := namesF_names B
     omega
    have hopen : OpenS A 0 B := ⟨0, B, hruns, by rw [if_neg (by omega)]; exact ⟨rfl, rfl⟩⟩
    refine go ?_
    refine K_ent (H' := pts bs (cl (stC bd q mb false) 92) :: mapR dV mb (begE []) :: diskA bd B :: X :: F) entA ?_
    (first | refine K_return hE Tryz.func13 rfl _ rfl (.inr (.inr ⟨hq, rfl, 0, B, hopen, .inr ⟨rfl, by omega, bs, mb, rfl, rfl⟩⟩)) entA | refine K_fallEnd hE Tryz.func13 rfl _ rfl (.inr (.inr ⟨hq, rfl, 0, B, hopen, .inr ⟨rfl, by omega, bs, mb, rfl, rfl⟩⟩)) entA)
  ·have hopen : OpenS A e B := ⟨e, B, hruns, by rw [if_neg (by omega)]; exact ⟨rfl, rfl⟩⟩
   refine go ?_
   have hd : decide ((e : Int) = 0) = false := by simp; exact he
   rw [hd]
   refine go ?_
   refine K_condP rfl rfl ?_ ?_
   ·intro _
    refine go ?_
    refine K_ent (H' := diskA bd B :: X :: F) entA ?_
    (first | refine K_return hE Tryz.func13 rfl _ rfl (.inr (.inr ⟨hq, rfl, e, B, hopen, .inl ⟨he, rfl, rfl⟩⟩)) entA | refine K_fallEnd hE Tryz.func13 rfl _ rfl (.inr (.inr ⟨hq, rfl, e, B, hopen, .inl ⟨he, rfl, rfl⟩⟩)) entA)
   ·intro h0
    exact absurd (by omega : e = 0) he
end Go.Proofs.YtpecmnaikjbanaaGreatDoor
/- blobs, part f: has, open, may, change. -/
namespace Go.Proofs.YtpecmnaikjbanaaGreatDoor
open Go Go.SL
attribute [local irreducible] J K Ctr Ends pts slc mapR mapI sbRow stock arrS loopP CtrY Sha.chunks Sha.chunk Sha.rounds Sha.sched sumL taggedL GI leafL diskA
section
variable {P : Program} {U : Tr} [hU : TabOk P U] {f : FuncId} {n : Nat} {R : Ending → World → Prop} {G : Glob} {k : List Item} {L : Lst} {H H' : List HP} {all : Array Oper} {rest : Pl}
 {ty : TypeId} {pos : String} {af : Array Edge} {gd : Option (Nat × Bool)} {d : Tmp}
theorem J_loadAggS {Hs : List HP} {t : TypeId} {x : Operand} {b off : Nat} {ty' : Ty} {l : List Value} {e : TypeId} {cs : List Value} (i : Nat) (hd : Nat.blt d n = true)
  (hx : ev L x = some (.pointer (some ⟨b, off, none⟩))) (hi : getL Hs i = some (pts b (cl l e))) (ht : U.get t = some ty') (hg : ty'.isAgg = true) (hv : takeE l off ty'.info.size [] = .mk cs)
  (h : J P f n R G (fun w => Sat G w Hs) all rest k ((d, .agg cs.toArray) :: L) H) : J P f n R G (fun w => Sat G w Hs) all (.cons true true ⟨some d, .load t x, ty, pos, af, gd⟩ rest) k L H :=
 J_readS hd (fun a w ha hw => by
  obtain ⟨h1, h2⟩ := takeE_eq _ _ _ _ _ hv
  simp only [List.reverse_nil, List.nil_append] at h1
  have hc : ∀ j v, cs[j]? = some v → w.cell? ⟨b, off + j, none⟩ = some v := fun j v hj => by
   rw [cell_of_block (Sat.getP hw hi)]
   rw [h1, List.getElem?_take] at hj
   split at hj
   ·simpa using hj
   ·cases hj
  have := run_loadAgg (P := P) ht hg (by rw [h1]; simp; omega) hc
  simp [execOp, ha.ev hx, this]) h
end
theorem Has_any (bs bd : Nat) (q : Int) (mb : Nat) (brk : Bool) (A : Ab) (d : Dg) : Ctr Tryz.prog 20 [ptr bs, dV d] [pts bs (cl (stC bd q mb brk) 92), diskA bd A]
  (fun r H => r = .bool (hasF A (fileN kB d)) ∧ H = [pts bs (cl (stC bd q mb brk) 92), diskA bd A]) := by
 have hf := file_any kB d (by decide)
 unfold dV at hf ⊢
 refine Ctr.enter Tryz.func20 (by kernel_rfl) rfl Tryz.ntmps20 rfl rfl ?_
 intro G F R hE
 refine K_regionA rfl ?_
 refine J_box rfl rfl (fun _ _ _ => trivial) ?_
 intro b3
 refine go ?_
 refine J_loadArr (U := tab) (l := dC d) 0 rfl rfl rfl rfl rfl rfl ?_
 ((try refine go ?_); first | refine J_callE rfl rfl rfl rfl (hf) entA ?_ (fun _ _ _ _ _ => trivial) | refine J_call0E rfl rfl rfl (hf) entA ?_ (fun _ _ _ _ _ => trivial))
 rintro _ _ ⟨rfl, rfl⟩
 ((try refine go ?_); first | refine J_callE rfl rfl rfl rfl (is_any bs bd q mb brk A (fileN kB d)) entA ?_ (fun _ _ _ _ _ => trivial) | refine J_call0E rfl rfl rfl (is_any bs bd q mb brk A (fileN kB d)) entA ?_ (fun _ _ _ _ _ => trivial))
 rintro _ _ ⟨rfl, rfl⟩
 refine go ?_
 (first | refine K_return hE Tryz.func20 rfl _ rfl ⟨rfl, rfl⟩ entA | refine K_fallEnd hE Tryz.func20 rfl _ rfl ⟨rfl, rfl⟩ entA)
def openL (l : List (Dg × Bl)) (x : Bl) : Bool := decide (begL l x.d = some x)
theorem begE_look (l : List (Dg × Bl)) (d : Dg) : alook (begE l) d = (begL l d).map blV := by
 unfold begE begL alook
 induction l with
 | nil => rfl
 | cons y l ih =>
  simp only [List.map_cons, List.find?_cons]
  by_cases h : y.1 = d
  ·simp [h]
  ·simp only [h, decide_false]
   exact ih
set_option maxRecDepth 20000 in
theorem open_any (bs bd : Nat) (q : Int) (mb : Nat) (brk : Bool) (l : List (Dg × Bl)) (x : Bl) : Ctr Tryz.prog 102 [ptr bs, blV x] [pts bs (cl (stC bd q mb brk) 92), mapR dV mb (begE l)]
  (fun r H => r = .bool (openL l x) ∧ H = [pts bs (cl (stC bd q mb brk) 92), mapR dV mb (begE l)]) := by
 unfold blV
 refine Ctr.enter Tryz.func102 (by kernel_rfl) rfl Tryz.ntmps102 rfl rfl ?_
 intro G F R hE
 refine K_regionA rfl ?_
 refine J_box rfl rfl (fun _ _ _ => trivial) ?_
 intro b3
 refine go ?_
 refine K_drawA (fun w => Sat G w ([pts b3 (cl (blC x) 32), pts bs (cl (stC bd q mb brk) 92), mapR dV mb (begE l)])) (.st 0 (.st 1 (.st 2 (.st 3 (.st 4 (.st 5 (.st 6 (.st 7 (.st 8 (.st 9 (.act 10 (.act 11 (.st 12 .nil))))))))))))) rfl (by kernel_rfl) (by kernel_rfl) (by kernel_rfl) (fun w hw => hw.ent entA) ?_
 refine go ?_
 refine J_loadAggS (U := tab) 0 rfl rfl rfl rfl rfl rfl ?_
 refine go ?_
 refine J_lookupOkS (U := tab) (es := begE l) (key := x.d) rfl kDg rfl rfl rfl rfl rfl rfl rfl (fun w hw => hw.getMap (i := 2) rfl) ?_
 rw [begE_look]
 cases hb : begL l x.d with
 | none =>
  simp only [Option.map_none, Option.getD_none, Option.isSome_none]
  refine go ?_
  refine J_alloc (U := tab) rfl rfl rfl (fun _ w hw => hw.ent entA) ?_
  intro b5
  refine go ?_
  (refine J_isStore ?_; first | refine J_store (U := tab) 0 (fun w hw => hw.ent entA) rfl rfl rfl rfl rfl rfl rfl rfl rfl ?_ | refine J_store (U := tab) 1 (fun w hw => hw.ent entA) rfl rfl rfl rfl rfl rfl rfl rfl rfl ?_ | refine J_store (U := tab) 2 (fun w hw => hw.ent entA) rfl rfl rfl rfl rfl rfl rfl rfl rfl ?_ | refine J_store (U := tab) 3 (fun w hw => hw.ent entA) rfl rfl rfl rfl rfl rfl rfl rfl rfl ?_ | refine J_store (U := tab) 4 (fun w hw => hw.ent entA) rfl rfl rfl rfl rfl rfl rfl rfl rfl ?_ | refine J_store (U := tab) 5 (fun w hw => hw.ent entA) rfl rfl rfl rfl rfl rfl rfl rfl rfl ?_ | refine J_store (U := tab) 6 (fun w hw => hw.ent entA) rfl rfl rfl rfl rfl rfl rfl rfl rfl ?_ | refine J_store (U := tab) 7 (fun w hw => hw.ent entA) rfl rfl rfl rfl rfl rfl rfl rfl rfl ?_ | refine J_store (U := tab) 8 (fun w hw => hw.ent entA) rfl rfl rfl rfl rfl rfl rfl rfl rfl ?_)
  refine go ?_
  have hw : openL l x = false := by unfold openL; rw [hb]; rfl
  rw [hw] at hE
  (first | refine K_return hE Tryz.func102 rfl _ rfl ⟨rfl, rfl⟩ entA | refine K_fallEnd hE Tryz.func102 rfl _ rfl ⟨rfl, rfl⟩ entA)
 | some y =>
  simp only [Option.map_some, Option.getD_some, Option.isSome_some]
  unfold blV
  refine go ?_
  refine J_alloc (U := tab) rfl rfl rfl (fun _ w hw => hw.ent entA) ?_
  intro b5
  refine go ?_
  (refine J_isStore ?_; first | refine J_store (U := tab) 0 (fun w hw => hw.ent entA) rfl rfl rfl rfl rfl rfl rfl rfl rfl ?_ | refine J_store (U := tab) 1 (fun w hw => hw.ent entA) rfl rfl rfl rfl rfl rfl rfl rfl rfl ?_ | refine J_store (U := tab) 2 (fun w hw => hw.ent entA) rfl rfl rfl rfl rfl rfl rfl rfl rfl ?_ | refine J_store (U := tab) 3 (fun w hw => hw.ent entA) rfl rfl rfl rfl rfl rfl rfl rfl rfl ?_ | refine J_store (U := tab) 4 (fun w hw => hw.ent entA) rfl rfl rfl rfl rfl rfl rfl rfl rfl ?_ | refine J_store (U := tab) 5 (fun w hw => hw.ent entA) rfl rfl rfl rfl rfl rfl rfl rfl rfl ?_ | refine J_store (U := tab) 6 (fun w hw => hw.ent entA) rfl rfl rfl rfl rfl rfl rfl rfl rfl ?_ | refine J_store (U := tab) 7 (fun w hw => hw.ent entA) rfl rfl rfl rfl rfl rfl rfl rfl rfl ?_ | refine J_store (U := tab) 8 (fun w hw => hw.ent entA) rfl rfl rfl rfl rfl rfl rfl rfl rfl ?_)
  refine go ?_
  have hw : openL l x = decide (x = y) := by unfold openL; rw [hb]; simp only [Option.some.injEq]; rw [decide_eq_decide]; exact eq_comm
  rw [hw] at hE
  (repeat (first | refine go1 ?_ | refine J_fork ?_ ?_ | refine J_loadArr (U := tab) (l := blC x) 1 rfl rfl rfl rfl rfl rfl ?_ | refine J_loadArr (U := tab) (l := blC y) 0 rfl rfl rfl rfl rfl rfl ?_ | refine J_eqAgg (b := decide (x = y)) rfl rfl rfl guBl (fun w => eqBl x y w) ?_))
  (first | refine K_return hE Tryz.func102 rfl _ rfl ⟨rfl, rfl⟩ entA | refine K_fallEnd hE Tryz.func102 rfl _ rfl ⟨rfl, rfl⟩ entA)
def mayL (brk : Bool) (l : List (Dg × Bl)) (x : Bl) : Nat := if brk then 10 else if openL l x then 0 else 4
set_option maxRecDepth 20000 in
theorem may_any (bs bd : Nat) (q : Int) (mb : Nat) (brk : Bool) (l : List (Dg × Bl)) (x : Bl) : Ctr Tryz.prog 59 [ptr bs, blV x] [pts bs (cl (stC bd q mb brk) 92), mapR dV mb (begE l)]
  (fun r H => r = .int .i64 (mayL brk l x : Int) ∧ H = [pts bs (cl (stC bd q mb brk) 92), mapR dV mb (begE l)]) := by
 have ho := open_any bs bd q mb brk l x
 unfold blV at ho ⊢
 refine Ctr.enter Tryz.func59 (by kernel_rfl) rfl Tryz.ntmps59 rfl rfl ?_
 intro G F R hE
 refine K_regionA rfl ?_
 refine J_box rfl rfl (fun _ _ _ => trivial) ?_
 intro b3
 cases brk with
 | true =>
  refine go ?_
  (first | refine K_return hE Tryz.func59 rfl _ rfl ⟨rfl, rfl⟩ entA | refine K_fallEnd hE Tryz.func59 rfl _ rfl ⟨rfl, rfl⟩ entA)
 | false =>
  refine go ?_
  refine J_loadArr (U := tab) (l := blC x) 0 rfl rfl rfl rfl rfl rfl ?_
  ((try refine go ?_); first | refine J_callE rfl rfl rfl rfl (ho) entA ?_ (fun _ _ _ _ _ => trivial) | refine J_call0E rfl rfl rfl (ho) entA ?_ (fun _ _ _ _ _ => trivial))
  rintro _ _ ⟨rfl, rfl⟩
  cases hob : openL l x with
  | true =>
   have hm : mayL false l x = 0 := by unfold mayL; rw [hob]; rfl
   rw [hm] at hE
   refine go ?_
   (first | refine K_return hE Tryz.func59 rfl _ rfl ⟨rfl, rfl⟩ entA | refine K_fallEnd hE Tryz.func59 rfl _ rfl ⟨rfl, rfl⟩ entA)
  | false =>
   have hm : mayL false l x = 4 := by unfold mayL; rw [hob]; rfl
   rw [hm] at hE
   refine go ?_
   (first | refine K_return hE Tryz.func59 rfl _ rfl ⟨rfl, rfl⟩ entA | refine K_fallEnd hE Tryz.func59 rfl _ rfl ⟨rfl, rfl⟩ entA)
theorem changeS_any (bs bd : Nat) (q : Int) (mb : Nat) (brk : Bool) (Y : HP) (V : HP) (v : Value) (fvs : List Value) (hv : Vw V v fvs.length fvs) (hn : fvs.length ≤ 1000000000) (ss : List Stp) (hlen : ss.length = fvs.length) (Q : Nat → Ab → Prop)
  (hst : ∀ (i : Nat) (fv : Value) (s : Stp), fvs[i]? = some fv → ss[i]? = some s → ∃ g fi cap, fv = .func (.func g) fi cap ∧ ∀ x, Q i x → Ctr Tryz.prog g (fi.toList ++ cap.toList) [stX bs bd q mb brk Y x] (fun r H => ∃ (e : Nat) (x' : Ab), r = .int .i64 (e : Int) ∧ H = [stX bs bd q mb brk Y x'] ∧ s x e x' ∧ (e = 0 → Q (i + 1) x')))
  (A : Ab) (hQ : Q 0 A) :
  Ctr Tryz.prog 55 [ptr bs, v] [V, stX bs bd q mb brk Y A]
   (fun r H => ∃ (e : Nat) (B : Ab), r = .int .i64 (e : Int) ∧ H = [V, stX bs bd q mb (brk || decide (e ≠ 0)) Y B] ∧ Runs ss A e B ∧ (e = 0 → Q fvs.length B)) := by
 have hall := all_any (stX bs bd q mb brk Y) V v fvs hv hn ss hlen Q hst A hQ
 obtain ⟨a, c, rfl⟩ := hv.shape
 refine Ctr.enter Tryz.func55 (by kernel_rfl) rfl Tryz.ntmps55 rfl rfl ?_
 intro G F R hE
 refine go ?_
 ((try refine go ?_); first | refine J_callE rfl rfl rfl rfl (hall) entA ?_ (fun _ _ _ _ _ => trivial) | refine J_call0E rfl rfl rfl (hall) entA ?_ (fun _ _ _ _ _ => trivial))
 rintro _ _ ⟨e, B, rfl, rfl, hruns, hb⟩
 refine J_ent (Ent.trans (Ent.pick [1] rfl) (Ent.unsep [pts bs (cl (stC bd q mb brk) 92), diskA bd B, Y] _)) ?_
 have hcl : Ent (pts bs (cl (stC bd q mb (brk || decide (e ≠ 0))) 92) :: diskA bd B :: Y :: V :: F) (V :: stX bs bd q mb (brk || decide (e ≠ 0)) Y B :: F) :=
  Ent.trans (Ent.resep [pts bs (cl (stC bd q mb (brk || decide (e ≠ 0))) 92), diskA bd B, Y] _) entA
 cases brk with
 | true =>
  refine go ?_
  refine K_ent (Ent.trans entA hcl) ?_
  (first | refine K_return hE Tryz.func55 rfl _ rfl ⟨e, B, rfl, rfl, hruns, hb⟩ entA | refine K_fallEnd hE Tryz.func55 rfl _ rfl ⟨e, B, rfl, rfl, hruns, hb⟩ entA)
 | false =>
  refine go ?_
  have hbe : decide ((e : Int) ≠ 0) = (false || decide (e ≠ 0)) := by by_cases h : e = 0 <;> simp [h]
  rw [hbe]
  refine K_ent (Ent.trans entA hcl) ?_
  (first | refine K_return hE Tryz.func55 rfl _ rfl ⟨e, B, rfl, rfl, hruns, hb⟩ entA | refine K_fallEnd hE Tryz.func55 rfl _ rfl ⟨e, B, rfl, rfl, hruns, hb⟩ entA)
end Go.Proofs.YtpecmnaikjbanaaGreatDoor
/- blobs, part g: the steps that a store's changes take. -/
namespace Go.Proofs.YtpecmnaikjbanaaGreatDoor
open Go Go.SL
theorem ctr_frame {P : Program} {f : FuncId} {args : List Value} {Pre : List HP} {Post : Value → List HP → Prop} (X : List HP) (c : Ctr P f args Pre Post) : Ctr P f args (Pre ++ X) (fun v H => ∃ H', Post v H' ∧ H = H' ++ X) :=
 ⟨c.1, fun G w F hw => (c.2 G w (X ++ F) (by rw [List.append_assoc] at hw; exact hw)).mono fun e w' h' => let ⟨v, H, he, hpo, hs⟩ := h'; ⟨v, H ++ X, he, ⟨H, hpo, rfl⟩, by rw [List.append_assoc]; exact hs⟩⟩
attribute [local irreducible] J K Ctr Ends pts slc mapR mapI sbRow stock arrS loopP CtrY Sha.chunks Sha.chunk Sha.rounds Sha.sched sumL taggedL GI leafL diskA
theorem stX_out (bs bd : Nat) (q : Int) (mb : Nat) (brk : Bool) (Xs : List HP) (A : Ab) (F : List HP) : Ent (stX bs bd q mb brk (Sep Xs) A :: F) (pts bs (cl (stC bd q mb brk) 92) :: diskA bd A :: (Xs ++ F)) :=
 Ent.trans (Ent.unsep [pts bs (cl (stC bd q mb brk) 92), diskA bd A, Sep Xs] F) (Ent.cons _ (Ent.cons _ (Ent.unsep Xs F)))
theorem stX_in (bs bd : Nat) (q : Int) (mb : Nat) (brk : Bool) (Xs : List HP) (A : Ab) (F : List HP) : Ent (pts bs (cl (stC bd q mb brk) 92) :: diskA bd A :: (Xs ++ F)) (stX bs bd q mb brk (Sep Xs) A :: F) :=
 Ent.trans (Ent.cons _ (Ent.cons _ (Ent.resep Xs F))) (Ent.resep [pts bs (cl (stC bd q mb brk) 92), diskA bd A, Sep Xs] F)
theorem ctr_stX {f : FuncId} {args : List Value} {bs bd : Nat} {q : Int} {mb : Nat} {brk : Bool} {Xs : List HP} {A : Ab} {p : Nat → Ab → Prop}
  (h : Ctr Tryz.prog f args (pts bs (cl (stC bd q mb brk) 92) :: diskA bd A :: Xs) (fun r H => ∃ (e : Nat) (B : Ab), r = .int .i64 (e : Int) ∧ H = pts bs (cl (stC bd q mb brk) 92) :: diskA bd B :: Xs ∧ p e B)) :
  Ctr Tryz.prog f args [stX bs bd q mb brk (Sep Xs) A] (fun r H => ∃ (e : Nat) (B : Ab), r = .int .i64 (e : Int) ∧ H = [stX bs bd q mb brk (Sep Xs) B] ∧ p e B) :=
 h.conv (by have := stX_out bs bd q mb brk Xs A []; rwa [List.append_nil] at this) (by
  rintro v H ⟨e, B, rfl, rfl, hp⟩
  exact ⟨_, ⟨e, B, rfl, rfl, hp⟩, by have := stX_in bs bd q mb brk Xs B []; rwa [List.append_nil] at this⟩)
theorem fS_any (x : Bl) : Ctr Tryz.prog 53 [.string (strOf kS), .agg (dC x.d).toArray] [] (fun r H => r = .string (fS x) ∧ H = []) := by
 have := file_any kS x.d (by decide)
 unfold dV at this
 exact this
theorem sync1_any (bs bd b2 b3 : Nat) (q : Int) (mb : Nat) (brk : Bool) (x : Bl) (A : Ab) (hwl : A.writes.length ≤ 1000000000) :
  Ctr Tryz.prog 130 [ptr b2, ptr b3] (pts bs (cl (stC bd q mb brk) 92) :: diskA bd A :: [pts b2 (cl [ptr bs] 35), pts b3 (cl (blC x) 32)])
   (fun r H => ∃ (e : Nat) (B : Ab), r = .int .i64 (e : Int) ∧ H = pts bs (cl (stC bd q mb brk) 92) :: diskA bd B :: [pts b2 (cl [ptr bs] 35), pts b3 (cl (blC x) 32)] ∧ stSync (fS x) A e B) := by
 refine Ctr.enter Tryz.func130 (by kernel_rfl) rfl Tryz.ntmps130 rfl rfl ?_
 intro G F R hE
 refine go ?_
 refine K_drawA (fun w => Sat G w ([pts bs (cl (stC bd q mb brk) 92), pts b2 (cl [ptr bs] 35), pts b3 (cl (blC x) 32)])) (.st 0 (.st 1 (.st 2 (.st 3 (.st 4 (.st 5 (.act 6 (.act 7 (.st 8 .nil))))))))) rfl (by kernel_rfl) (by kernel_rfl) (by kernel_rfl) (fun w hw => hw.ent entA) ?_
 refine go ?_
 refine J_loadAggS (U := tab) 2 rfl rfl rfl rfl rfl rfl ?_
 refine go ?_
 (first | refine J_callE rfl rfl rfl rfl (fS_any x) entA ?_ (fun _ _ w hp hw => by obtain ⟨rfl, rfl⟩ := hp; exact hw.ent entA) | refine J_call0E rfl rfl rfl (fS_any x) entA ?_ (fun _ _ w hp hw => by obtain ⟨rfl, rfl⟩ := hp; exact hw.ent entA))
 rintro _ _ ⟨rfl, rfl⟩
 refine go ?_
 (first | refine J_callE rfl rfl rfl rfl (Sync_dA bd A (fS x) hwl) entA ?_ (fun _ _ w hp hw => by obtain ⟨rfl, rfl⟩ := hp; exact hw.ent entA) | refine J_call0E rfl rfl rfl (Sync_dA bd A (fS x) hwl) entA ?_ (fun _ _ w hp hw => by obtain ⟨rfl, rfl⟩ := hp; exact hw.ent entA))
 rintro _ _ ⟨rfl, rfl⟩
 refine go ?_
 (first | refine K_return hE Tryz.func130 rfl _ rfl ⟨_, _, rfl, rfl, rfl⟩ entA | refine K_fallEnd hE Tryz.func130 rfl _ rfl ⟨_, _, rfl, rfl, rfl⟩ entA)
theorem abort1_any (bs bd b2 b3 : Nat) (q : Int) (mb : Nat) (brk : Bool) (x : Bl) (A : Ab) (hst : A.states.length ≤ 1000000000) :
  Ctr Tryz.prog 68 [ptr b2, ptr b3] (pts bs (cl (stC bd q mb brk) 92) :: diskA bd A :: [pts b2 (cl [ptr bs] 35), pts b3 (cl (blC x) 32)])
   (fun r H => ∃ (e : Nat) (B : Ab), r = .int .i64 (e : Int) ∧ H = pts bs (cl (stC bd q mb brk) 92) :: diskA bd B :: [pts b2 (cl [ptr bs] 35), pts b3 (cl (blC x) 32)] ∧ stRemove (fS x) A e B) := by
 refine Ctr.enter Tryz.func68 (by kernel_rfl) rfl Tryz.ntmps68 rfl rfl ?_
 intro G F R hE
 refine go ?_
 refine K_drawA (fun w => Sat G w ([pts bs (cl (stC bd q mb brk) 92), pts b2 (cl [ptr bs] 35), pts b3 (cl (blC x) 32)])) (.st 0 (.st 1 (.st 2 (.st 3 (.st 4 (.st 5 (.act 6 (.act 7 (.st 8 .nil))))))))) rfl (by kernel_rfl) (by kernel_rfl) (by kernel_rfl) (fun w hw => hw.ent entA) ?_
 refine go ?_
 refine J_loadAggS (U := tab) 2 rfl rfl rfl rfl rfl rfl ?_
 refine go ?_
 (first | refine J_callE rfl rfl rfl rfl (fS_any x) entA ?_ (fun _ _ w hp hw => by obtain ⟨rfl, rfl⟩ := hp; exact hw.ent entA) | refine J_call0E rfl rfl rfl (fS_any x) entA ?_ (fun _ _ w hp hw => by obtain ⟨rfl, rfl⟩ := hp; exact hw.ent entA))
 rintro _ _ ⟨rfl, rfl⟩
 refine go ?_
 (first | refine J_callE rfl rfl rfl rfl (Remove_dA bd A (fS x) hst) entA ?_ (fun _ _ w hp hw => by obtain ⟨rfl, rfl⟩ := hp; exact hw.ent entA) | refine J_call0E rfl rfl rfl (Remove_dA bd A (fS x) hst) entA ?_ (fun _ _ w hp hw => by obtain ⟨rfl, rfl⟩ := hp; exact hw.ent entA))
 rintro _ _ ⟨rfl, rfl⟩
 refine go ?_
 (first | refine K_return hE Tryz.func68 rfl _ rfl ⟨_, _, rfl, rfl, rfl⟩ entA | refine K_fallEnd hE Tryz.func68 rfl _ rfl ⟨_, _, rfl, rfl, rfl⟩ entA)
theorem move1_any (bs bd b2 b4 : Nat) (q : Int) (mb : Nat) (brk : Bool) (o : ByteArray) (A : Ab) (hwl : A.writes.length ≤ 1000000000) :
  Ctr Tryz.prog 107 [ptr b2, ptr b4] (pts bs (cl (stC bd q mb brk) 92) :: diskA bd A :: [pts b2 (cl [ptr bs] 35), pts b4 (cl [.string o] 9)])
   (fun r H => ∃ (e : Nat) (B : Ab), r = .int .i64 (e : Int) ∧ H = pts bs (cl (stC bd q mb brk) 92) :: diskA bd B :: [pts b2 (cl [ptr bs] 35), pts b4 (cl [.string o] 9)] ∧ stSync o A e B) := by
 refine Ctr.enter Tryz.func107 (by kernel_rfl) rfl Tryz.ntmps107 rfl rfl ?_
 intro G F R hE
 refine go ?_
 refine K_drawA (fun w => Sat G w ([pts bs (cl (stC bd q mb brk) 92), pts b2 (cl [ptr bs] 35), pts b4 (cl [.string o] 9)])) (.st 0 (.st 1 (.st 2 (.st 3 (.st 4 (.act 5 (.st 6 .nil))))))) rfl (by kernel_rfl) (by kernel_rfl) (by kernel_rfl) (fun w hw => hw.ent entA) ?_
 refine go ?_
 (first | refine J_callE rfl rfl rfl rfl (Sync_dA bd A o hwl) entA ?_ (fun _ _ w hp hw => by obtain ⟨rfl, rfl⟩ := hp; exact hw.ent entA) | refine J_call0E rfl rfl rfl (Sync_dA bd A o hwl) entA ?_ (fun _ _ w hp hw => by obtain ⟨rfl, rfl⟩ := hp; exact hw.ent entA))
 rintro _ _ ⟨rfl, rfl⟩
 refine go ?_
 (first | refine K_return hE Tryz.func107 rfl _ rfl ⟨_, _, rfl, rfl, rfl⟩ entA | refine K_fallEnd hE Tryz.func107 rfl _ rfl ⟨_, _, rfl, rfl, rfl⟩ entA)
theorem move2_any (bs bd b2 b4 b5 : Nat) (q : Int) (mb : Nat) (brk : Bool) (o n : ByteArray) (A : Ab) (hst : A.states.length ≤ 1000000000) :
  Ctr Tryz.prog 109 [ptr b2, ptr b4, ptr b5] (pts bs (cl (stC bd q mb brk) 92) :: diskA bd A :: [pts b2 (cl [ptr bs] 35), pts b4 (cl [.string o] 9), pts b5 (cl [.string n] 9)])
   (fun r H => ∃ (e : Nat) (B : Ab), r = .int .i64 (e : Int) ∧ H = pts bs (cl (stC bd q mb brk) 92) :: diskA bd B :: [pts b2 (cl [ptr bs] 35), pts b4 (cl [.string o] 9), pts b5 (cl [.string n] 9)] ∧ stRename o n A e B) := by
 refine Ctr.enter Tryz.func109 (by kernel_rfl) rfl Tryz.ntmps109 rfl rfl ?_
 intro G F R hE
 refine go ?_
 refine K_drawA (fun w => Sat G w ([pts bs (cl (stC bd q mb brk) 92), pts b2 (cl [ptr bs] 35), pts b4 (cl [.string o] 9), pts b5 (cl [.string n] 9)])) (.st 0 (.st 1 (.st 2 (.st 3 (.st 4 (.st 5 (.act 6 (.st 7 .nil)))))))) rfl (by kernel_rfl) (by kernel_rfl) (by kernel_rfl) (fun w hw => hw.ent entA) ?_
 refine go ?_
 refine J_loadH (U := tab) 3 rfl rfl rfl rfl rfl rfl ?_
 refine go ?_
 (first | refine J_callE rfl rfl rfl rfl (Rename_dA bd A o n hst) entA ?_ (fun _ _ w hp hw => by obtain ⟨rfl, rfl⟩ := hp; exact hw.ent entA) | refine J_call0E rfl rfl rfl (Rename_dA bd A o n hst) entA ?_ (fun _ _ w hp hw => by obtain ⟨rfl, rfl⟩ := hp; exact hw.ent entA))
 rintro _ _ ⟨rfl, rfl⟩
 refine go ?_
 (first | refine K_return hE Tryz.func109 rfl _ rfl ⟨_, _, rfl, rfl, rfl⟩ entA | refine K_fallEnd hE Tryz.func109 rfl _ rfl ⟨_, _, rfl, rfl, rfl⟩ entA)
theorem begin1_any (bs bd b2 b7 : Nat) (q : Int) (mb : Nat) (brk : Bool) (n : ByteArray) (A : Ab) (hst : A.states.length ≤ 1000000000) :
  Ctr Tryz.prog 56 [ptr b2, ptr b7] (pts bs (cl (stC bd q mb brk) 92) :: diskA bd A :: [pts b2 (cl [ptr bs] 35), pts b7 (cl [.string n] 9)])
   (fun r H => ∃ (e : Nat) (B : Ab), r = .int .i64 (e : Int) ∧ H = pts bs (cl (stC bd q mb brk) 92) :: diskA bd B :: [pts b2 (cl [ptr bs] 35), pts b7 (cl [.string n] 9)] ∧ stCreate n A e B) := by
 refine Ctr.enter Tryz.func56 (by kernel_rfl) rfl Tryz.ntmps56 rfl rfl ?_
 intro G F R hE
 refine go ?_
 refine K_drawA (fun w => Sat G w ([pts bs (cl (stC bd q mb brk) 92), pts b2 (cl [ptr bs] 35), pts b7 (cl [.string n] 9)])) (.st 0 (.st 1 (.st 2 (.st 3 (.st 4 (.act 5 (.st 6 .nil))))))) rfl (by kernel_rfl) (by kernel_rfl) (by kernel_rfl) (fun w hw => hw.ent entA) ?_
 refine go ?_
 (first | refine J_callE rfl rfl rfl rfl (Create_dA bd A n hst) entA ?_ (fun _ _ w hp hw => by obtain ⟨f, hf, rfl, rfl⟩ := hp; exact hw.ent entA) | refine J_call0E rfl rfl rfl (Create_dA bd A n hst) entA ?_ (fun _ _ w hp hw => by obtain ⟨f, hf, rfl, rfl⟩ := hp; exact hw.ent entA))
 rintro _ _ ⟨f, hf, rfl, rfl⟩
 refine go ?_
 (first | refine K_return hE Tryz.func56 rfl _ rfl ⟨_, _, rfl, rfl, ⟨f, hf, rfl⟩⟩ entA | refine K_fallEnd hE Tryz.func56 rfl _ rfl ⟨_, _, rfl, rfl, ⟨f, hf, rfl⟩⟩ entA)
theorem put1_any (bs bd b4 b5 b10 b7 : Nat) (q : Int) (mb : Nat) (brk : Bool) (x : Bl) (at_ : Int) (X : HP) (bv : Value) (b : List UInt8) (hv : Vw X bv b.length (bV b)) (A : Ab) (hwl : A.writes.length ≤ 1000000000) (hbl : b.length ≤ 1000000000) (hat : 0 ≤ at_ ∧ at_ ≤ 9223372036854775807) :
  Ctr Tryz.prog 61 [ptr b4, ptr b5, ptr b10, ptr b7] (pts bs (cl (stC bd q mb brk) 92) :: diskA bd A :: [pts b4 (cl [ptr bs] 35), pts b5 (cl (blC x) 32), pts b10 (cl [.int .i64 at_] 3), pts b7 (cl [bv] 22), X])
   (fun r H => ∃ (e : Nat) (B : Ab), r = .int .i64 (e : Int) ∧ H = pts bs (cl (stC bd q mb brk) 92) :: diskA bd B :: [pts b4 (cl [ptr bs] 35), pts b5 (cl (blC x) 32), pts b10 (cl [.int .i64 at_] 3), pts b7 (cl [bv] 22), X] ∧ stWrite (fS x) at_.toNat b A e B) := by
 obtain ⟨a, c, rfl⟩ := hv.shape
 have hmw : mayW (fS x) at_ b = mayW (fS x) at_.toNat b := by rw [Int.toNat_of_nonneg hat.1]
 have hw := Write_dA bd A (fS x) at_ X _ b hv hwl hbl ⟨by omega, hat.2⟩
 rw [hmw] at hw
 refine Ctr.enter Tryz.func61 (by kernel_rfl) rfl Tryz.ntmps61 rfl rfl ?_
 intro G F R hE
 refine go ?_
 refine K_drawA (fun w => Sat G w ([pts bs (cl (stC bd q mb brk) 92), pts b4 (cl [ptr bs] 35), pts b5 (cl (blC x) 32), pts b10 (cl [.int .i64 at_] 3), pts b7 (cl [.slice a b.length c] 22)])) (.st 0 (.st 1 (.st 2 (.st 3 (.st 4 (.st 5 (.st 7 (.st 8 (.act 6 (.act 9 (.st 10 .nil))))))))))) rfl (by kernel_rfl) (by kernel_rfl) (by kernel_rfl) (fun w hw => hw.ent entA) ?_
 refine go ?_
 refine J_loadAggS (U := tab) 2 rfl rfl rfl rfl rfl rfl ?_
 refine go ?_
 refine J_loadH (U := tab) 3 rfl rfl rfl rfl rfl rfl ?_
 refine go ?_
 refine J_loadH (U := tab) 4 rfl rfl rfl rfl rfl rfl ?_
 refine go ?_
 (first | refine J_callE rfl rfl rfl rfl (fS_any x) entA ?_ (fun _ _ w hp hw => by obtain ⟨rfl, rfl⟩ := hp; exact hw.ent entA) | refine J_call0E rfl rfl rfl (fS_any x) entA ?_ (fun _ _ w hp hw => by obtain ⟨rfl, rfl⟩ := hp; exact hw.ent entA))
 rintro _ _ ⟨rfl, rfl⟩
 refine go ?_
 (first | refine J_callE rfl rfl rfl rfl (hw) entA ?_ (fun _ _ w hp hw => by obtain ⟨rfl, rfl⟩ := hp; exact hw.ent entA) | refine J_call0E rfl rfl rfl (hw) entA ?_ (fun _ _ w hp hw => by obtain ⟨rfl, rfl⟩ := hp; exact hw.ent entA))
 rintro _ _ ⟨rfl, rfl⟩
 refine go ?_
 (first | refine K_return hE Tryz.func61 rfl _ rfl ⟨_, _, rfl, rfl, rfl⟩ entA | refine K_fallEnd hE Tryz.func61 rfl _ rfl ⟨_, _, rfl, rfl, rfl⟩ entA)
theorem names_X (bs bd : Nat) (q : Int) (mb : Nat) (brk : Bool) (Xs : List HP) (A : Ab) : Ctr Tryz.prog 51 [ptr bd] [stX bs bd q mb brk (Sep Xs) A]
  (fun r H => ∃ (e : Nat) (B : Ab), r = .int .i64 (e : Int) ∧ H = [stX bs bd q mb brk (Sep Xs) B] ∧ stSyncNames A e B) :=
 ctr_stX ((ctr_frame (pts bs (cl (stC bd q mb brk) 92) :: Xs) (SyncNames_dA bd A)).conv (Ent.perm (List.Perm.swap ..)) (by
  rintro v H ⟨H1, ⟨rfl, rfl⟩, rfl⟩
  exact ⟨_, ⟨_, _, rfl, rfl, rfl⟩, Ent.perm (List.Perm.swap ..)⟩))
end Go.Proofs.YtpecmnaikjbanaaGreatDoor
/- blobs, part h: Sync, Abort. -/
namespace Go.Proofs.YtpecmnaikjbanaaGreatDoor
open Go Go.SL
attribute [local irreducible] J K Ctr Ends pts slc mapR mapI sbRow stock arrS loopP CtrY Sha.chunks Sha.chunk Sha.rounds Sha.sched sumL taggedL GI leafL diskA
def stoL (bs bd : Nat) (q : Int) (mb : Nat) (s : Sto) : List HP := [pts bs (cl (stC bd q mb s.brk) 92), mapR dV mb (begE s.beg), diskA bd s.A]
def GQ (A : Ab) (i : Nat) (x : Ab) : Prop := x.states.length ≤ A.states.length + i ∧ x.writes.length ≤ A.writes.length + i
theorem GQ.zero (A : Ab) : GQ A 0 A := ⟨Nat.le_refl _, Nat.le_refl _⟩
theorem GQ.next {A x y : Ab} {i : Nat} (h : GQ A i x) (g : Grow1 x y) : GQ A (i + 1) y := ⟨by have := h.1; have := g.1; omega, by have := h.2; have := g.2; omega⟩
theorem grow_stSync {A B : Ab} {nm : ByteArray} {e : Nat} (h : stSync nm A e B) : Grow1 A B := by
 have := grow_sync A (isName nm) nm
 rw [← h] at this
 exact this
theorem grow_stRename {A B : Ab} {o n : ByteArray} {e : Nat} (h : stRename o n A e B) : Grow1 A B := by
 have := grow_rename A ([o, n].all isName) o n
 rw [← h] at this
 exact this
theorem grow_stSyncNames {A B : Ab} {e : Nat} (h : stSyncNames A e B) : Grow1 A B := by
 have := grow_syncNames A
 rw [← h] at this
 exact this
theorem grow_stWrite {A B : Ab} {nm : ByteArray} {at_ : Nat} {b : List UInt8} {e : Nat} (h : stWrite nm at_ b A e B) : Grow1 A B := by
 have := grow_write A (mayW nm at_ b) nm at_ b
 rw [← h] at this
 exact this
theorem grow_stCreate {A B : Ab} {nm : ByteArray} {e : Nat} (h : stCreate nm A e B) : Grow1 A B := by
 obtain ⟨f, _, h⟩ := h
 have := grow_create A (isName nm) nm f
 rw [← h] at this
 exact this
set_option maxRecDepth 20000 in
theorem Sync_bl (bs bd : Nat) (q : Int) (mb : Nat) (s : Sto) (x : Bl) (hst : s.A.states.length ≤ 900000000) (hwl : s.A.writes.length ≤ 900000000) : Ctr Tryz.prog 87 [ptr bs, blV x] (stoL bs bd q mb s)
  (fun r H => ∃ (e : Nat) (t : Sto), r = .int .i64 (e : Int) ∧ H = stoL bs bd q mb t ∧ SyncS x s e t) := by
 obtain ⟨A, beg, brk⟩ := s
 simp only at hst hwl
 have hmay := may_any bs bd q mb brk beg x
 unfold blV at hmay ⊢
 refine Ctr.enter Tryz.func87 (by kernel_rfl) rfl Tryz.ntmps87 rfl rfl ?_
 intro G F R hE
 refine K_ent (H' := pts bs (cl (stC bd q mb brk) 92) :: mapR dV mb (begE beg) :: diskA bd A :: F) (Ent.refl _) ?_
 refine K_regionA rfl ?_
 refine J_box rfl rfl (fun _ _ _ => trivial) ?_
 intro b2
 refine J_box rfl rfl (fun _ _ _ => trivial) ?_
 intro b3
 refine go ?_
 refine J_loadArr (U := tab) (l := blC x) 0 rfl rfl rfl rfl rfl rfl ?_
 ((try refine go ?_); first | refine J_callE rfl rfl rfl rfl (hmay) entA ?_ (fun _ _ _ _ _ => trivial) | refine J_call0E rfl rfl rfl (hmay) entA ?_ (fun _ _ _ _ _ => trivial))
 rintro _ _ ⟨rfl, rfl⟩
 refine go ?_
 refine K_condP rfl rfl ?_ ?_
 ·intro hne
  have hne' : mayL brk beg x ≠ 0 := by omega
  refine go ?_
  refine K_ent (H' := stoL bs bd q mb ⟨A, beg, brk⟩ ++ F) entA ?_
  (first | refine K_return hE Tryz.func87 rfl _ rfl ⟨mayL brk beg x, ⟨A, beg, brk⟩, rfl, rfl, by unfold SyncS; rw [if_pos (show mayS ⟨A, beg, brk⟩ x ≠ 0 from hne')]; exact ⟨rfl, rfl⟩⟩ entA | refine K_fallEnd hE Tryz.func87 rfl _ rfl ⟨mayL brk beg x, ⟨A, beg, brk⟩, rfl, rfl, by unfold SyncS; rw [if_pos (show mayS ⟨A, beg, brk⟩ x ≠ 0 from hne')]; exact ⟨rfl, rfl⟩⟩ entA)
 ·intro heq
  have heq' : mayL brk beg x = 0 := by omega
  refine go ?_
  refine J_buildSlice1 (U := tab) (cs := [.func (.func 130) #[] #[ptr b2, ptr b3] ]) rfl rfl rfl rfl rfl rfl rfl rfl rfl (fun _ _ _ => trivial) ?_
  intro row
  have hst1 : ∀ (i : Nat) (fv : Value) (sp : Stp), [.func (.func 130) #[] #[ptr b2, ptr b3] ][i]? = some fv → [stSync (fS x)][i]? = some sp → ∃ g fi cap, fv = .func (.func g) fi cap ∧ ∀ y, GQ A i y → Ctr Tryz.prog g (fi.toList ++ cap.toList) [stX bs bd q mb brk (Sep [pts b2 (cl [ptr bs] 35), pts b3 (cl (blC x) 32)]) y] (fun r H => ∃ (e : Nat) (x' : Ab), r = .int .i64 (e : Int) ∧ H = [stX bs bd q mb brk (Sep [pts b2 (cl [ptr bs] 35), pts b3 (cl (blC x) 32)]) x'] ∧ sp y e x' ∧ (e = 0 → GQ A (i + 1) x')) := by
   intro i fv sp hi hs
   match i, hi, hs with
   | 0, hi, hs =>
    cases hi; cases hs
    refine ⟨_, _, _, rfl, fun y hy => (ctr_stX (sync1_any bs bd b2 b3 q mb brk x y (by have := hy.2; omega))).post ?_⟩
    rintro r H ⟨e, B, rfl, rfl, h1⟩
    exact ⟨e, B, rfl, rfl, h1, fun _ => hy.next (grow_stSync h1)⟩
   | k + 1, hi, hs => simp at hi
  have hch := changeS_any bs bd q mb brk (Sep [pts b2 (cl [ptr bs] 35), pts b3 (cl (blC x) 32)]) (pts row (cl [.func (.func 130) #[] #[ptr b2, ptr b3] ] 95)) (.slice (some ⟨row, 0, none⟩) 1 1) [.func (.func 130) #[] #[ptr b2, ptr b3] ] (Vw.pts rfl) (by show 1 ≤ _; omega) [stSync (fS x)] rfl (GQ A) hst1 A (GQ.zero A)
  refine J_ent (H' := pts row (cl [.func (.func 130) #[] #[ptr b2, ptr b3] ] 95) :: stX bs bd q mb brk (Sep [pts b2 (cl [ptr bs] 35), pts b3 (cl (blC x) 32)]) A :: mapR dV mb (begE beg) :: F) (Ent.trans (H2 := pts bs (cl (stC bd q mb brk) 92) :: diskA bd A :: ([pts b2 (cl [ptr bs] 35), pts b3 (cl (blC x) 32)] ++ (pts row (cl [.func (.func 130) #[] #[ptr b2, ptr b3] ] 95) :: mapR dV mb (begE beg) :: F))) entA (Ent.trans (stX_in bs bd q mb brk _ A _) entA)) ?_
  ((try refine go ?_); first | refine J_callE rfl rfl rfl rfl (hch) entA ?_ (fun _ _ _ _ _ => trivial) | refine J_call0E rfl rfl rfl (hch) entA ?_ (fun _ _ _ _ _ => trivial))
  rintro _ _ ⟨e, B, rfl, rfl, hruns, -⟩
  refine go ?_
  refine K_ent (H' := stoL bs bd q mb ⟨B, beg, brk || decide (e ≠ 0)⟩ ++ F) (Ent.trans (Ent.pick [1] rfl) (Ent.trans (stX_out bs bd q mb (brk || decide (e ≠ 0)) _ B _) entA)) ?_
  (first | refine K_return hE Tryz.func87 rfl _ rfl ⟨e, ⟨B, beg, or brk (decide (e ≠ 0))⟩, rfl, rfl, by unfold SyncS; rw [if_neg (show ¬ mayS ⟨A, beg, brk⟩ x ≠ 0 from by show ¬ mayL brk beg x ≠ 0; omega)]; exact ⟨B, hruns, rfl⟩⟩ entA | refine K_fallEnd hE Tryz.func87 rfl _ rfl ⟨e, ⟨B, beg, or brk (decide (e ≠ 0))⟩, rfl, rfl, by unfold SyncS; rw [if_neg (show ¬ mayS ⟨A, beg, brk⟩ x ≠ 0 from by show ¬ mayL brk beg x ≠ 0; omega)]; exact ⟨B, hruns, rfl⟩⟩ entA)
theorem begE_del (l : List (Dg × Bl)) (d : Dg) : adel (begE l) d = begE (delB l d) := by
 unfold adel begE delB
 rw [List.filter_map]
 rfl
set_option maxRecDepth 20000 in
theorem Abort_bl (bs bd : Nat) (q : Int) (mb : Nat) (s : Sto) (x : Bl) (hst : s.A.states.length ≤ 900000000) (hwl : s.A.writes.length ≤ 900000000) : Ctr Tryz.prog 23 [ptr bs, blV x] (stoL bs bd q mb s)
  (fun r H => ∃ (e : Nat) (t : Sto), r = .int .i64 (e : Int) ∧ H = stoL bs bd q mb t ∧ AbortS x s e t) := by
 obtain ⟨A, beg, brk⟩ := s
 simp only at hst hwl
 have hmay := may_any bs bd q mb brk beg x
 unfold blV at hmay ⊢
 refine Ctr.enter Tryz.func23 (by kernel_rfl) rfl Tryz.ntmps23 rfl rfl ?_
 intro G F R hE
 refine K_ent (H' := pts bs (cl (stC bd q mb brk) 92) :: mapR dV mb (begE beg) :: diskA bd A :: F) (Ent.refl _) ?_
 refine K_regionA rfl ?_
 refine J_box rfl rfl (fun _ _ _ => trivial) ?_
 intro b2
 refine J_box rfl rfl (fun _ _ _ => trivial) ?_
 intro b3
 refine go ?_
 refine J_loadArr (U := tab) (l := blC x) 0 rfl rfl rfl rfl rfl rfl ?_
 ((try refine go ?_); first | refine J_callE rfl rfl rfl rfl (hmay) entA ?_ (fun _ _ _ _ _ => trivial) | refine J_call0E rfl rfl rfl (hmay) entA ?_ (fun _ _ _ _ _ => trivial))
 rintro _ _ ⟨rfl, rfl⟩
 refine go ?_
 refine K_condP rfl rfl ?_ ?_
 ·intro hne
  have hne' : mayL brk beg x ≠ 0 := by omega
  refine go ?_
  refine K_ent (H' := stoL bs bd q mb ⟨A, beg, brk⟩ ++ F) entA ?_
  (first | refine K_return hE Tryz.func23 rfl _ rfl ⟨mayL brk beg x, ⟨A, beg, brk⟩, rfl, rfl, by unfold AbortS; rw [if_pos (show mayS ⟨A, beg, brk⟩ x ≠ 0 from hne')]; exact ⟨rfl, rfl⟩⟩ entA | refine K_fallEnd hE Tryz.func23 rfl _ rfl ⟨mayL brk beg x, ⟨A, beg, brk⟩, rfl, rfl, by unfold AbortS; rw [if_pos (show mayS ⟨A, beg, brk⟩ x ≠ 0 from hne')]; exact ⟨rfl, rfl⟩⟩ entA)
 ·intro heq
  have heq' : mayL brk beg x = 0 := by omega
  refine go ?_
  refine J_buildSlice1 (U := tab) (cs := [.func (.func 68) #[] #[ptr b2, ptr b3] ]) rfl rfl rfl rfl rfl rfl rfl rfl rfl (fun _ _ _ => trivial) ?_
  intro row
  have hst1 : ∀ (i : Nat) (fv : Value) (sp : Stp), [.func (.func 68) #[] #[ptr b2, ptr b3] ][i]? = some fv → [stRemove (fS x)][i]? = some sp → ∃ g fi cap, fv = .func (.func g) fi cap ∧ ∀ y, GQ A i y → Ctr Tryz.prog g (fi.toList ++ cap.toList) [stX bs bd q mb brk (Sep [pts b2 (cl [ptr bs] 35), pts b3 (cl (blC x) 32)]) y] (fun r H => ∃ (e : Nat) (x' : Ab), r = .int .i64 (e : Int) ∧ H = [stX bs bd q mb brk (Sep [pts b2 (cl [ptr bs] 35), pts b3 (cl (blC x) 32)]) x'] ∧ sp y e x' ∧ (e = 0 → GQ A (i + 1) x')) := by
   intro i fv sp hi hs
   match i, hi, hs with
   | 0, hi, hs =>
    cases hi; cases hs
    refine ⟨_, _, _, rfl, fun y hy => (ctr_stX (abort1_any bs bd b2 b3 q mb brk x y (by have := hy.1; omega))).post ?_⟩
    rintro r H ⟨e, B, rfl, rfl, h1⟩
    exact ⟨e, B, rfl, rfl, h1, fun _ => hy.next (grow_stRemove h1)⟩
   | k + 1, hi, hs => simp at hi
  have hch := changeS_any bs bd q mb brk (Sep [pts b2 (cl [ptr bs] 35), pts b3 (cl (blC x) 32)]) (pts row (cl [.func (.func 68) #[] #[ptr b2, ptr b3] ] 95)) (.slice (some ⟨row, 0, none⟩) 1 1) [.func (.func 68) #[] #[ptr b2, ptr b3] ] (Vw.pts rfl) (by show 1 ≤ _; omega) [stRemove (fS x)] rfl (GQ A) hst1 A (GQ.zero A)
  refine J_ent (H' := pts row (cl [.func (.func 68) #[] #[ptr b2, ptr b3] ] 95) :: stX bs bd q mb brk (Sep [pts b2 (cl [ptr bs] 35), pts b3 (cl (blC x) 32)]) A :: mapR dV mb (begE beg) :: F) (Ent.trans (H2 := pts bs (cl (stC bd q mb brk) 92) :: diskA bd A :: ([pts b2 (cl [ptr bs] 35), pts b3 (cl (blC x) 32)] ++ (pts row (cl [.func (.func 68) #[] #[ptr b2, ptr b3] ] 95) :: mapR dV mb (begE beg) :: F))) entA (Ent.trans (stX_in bs bd q mb brk _ A _) entA)) ?_
  ((try refine go ?_); first | refine J_callE rfl rfl rfl rfl (hch) entA ?_ (fun _ _ _ _ _ => trivial) | refine J_call0E rfl rfl rfl (hch) entA ?_ (fun _ _ _ _ _ => trivial))
  rintro _ _ ⟨e, B, rfl, rfl, hruns, -⟩
  refine J_ent (Ent.trans (Ent.pick [1] rfl) (stX_out bs bd q mb (brk || decide (e ≠ 0)) _ B _)) ?_
  have hs0 : ¬ mayS ⟨A, beg, brk⟩ x ≠ 0 := by show ¬ mayL brk beg x ≠ 0; omega
  refine go ?_
  refine K_condP rfl rfl ?_ ?_
  ·intro hne1
   have he : e ≠ 0 := by omega
   refine go ?_
   refine K_ent (H' := stoL bs bd q mb ⟨B, beg, brk || decide (e ≠ 0)⟩ ++ F) entA ?_
   (first | refine K_return hE Tryz.func23 rfl _ rfl ⟨e, ⟨B, beg, or brk (decide (e ≠ 0))⟩, rfl, rfl, by unfold AbortS; rw [if_neg hs0]; exact ⟨_, ⟨B, hruns, rfl⟩, by rw [if_pos he]⟩⟩ entA | refine K_fallEnd hE Tryz.func23 rfl _ rfl ⟨e, ⟨B, beg, or brk (decide (e ≠ 0))⟩, rfl, rfl, by unfold AbortS; rw [if_neg hs0]; exact ⟨_, ⟨B, hruns, rfl⟩, by rw [if_pos he]⟩⟩ entA)
  ·intro heq1
   have he : e = 0 := by omega
   subst he
   refine go ?_
   refine K_drawA (fun w => Sat G w ([pts b2 (cl [ptr bs] 35), pts bs (cl (stC bd q mb (or brk (decide (0 ≠ 0)))) 92), pts b3 (cl (blC x) 32)])) (.st 0 (.st 1 (.st 2 (.st 3 (.st 4 (.st 5 (.act 6 .nil))))))) rfl (by kernel_rfl) (by kernel_rfl) (by kernel_rfl) (fun w hw => hw.ent entA) ?_
   refine go ?_
   refine J_loadAggS (U := tab) 2 rfl rfl rfl rfl rfl rfl ?_
   refine go ?_
   refine J_delete (U := tab) (es := begE beg) (key := x.d) 5 kDg (fun w hw => by exact trivial) rfl rfl rfl rfl rfl rfl rfl ?_
   rw [begE_del]
   refine go ?_
   refine K_ent (H' := stoL bs bd q mb ⟨B, delB beg x.d, brk || decide (0 ≠ 0)⟩ ++ F) entA ?_
   (first | refine K_return hE Tryz.func23 rfl _ rfl ⟨0, ⟨B, delB beg x.d, or brk (decide (0 ≠ 0))⟩, rfl, rfl, by unfold AbortS; rw [if_neg hs0]; exact ⟨_, ⟨B, hruns, rfl⟩, by rw [if_neg (by omega)]⟩⟩ entA | refine K_fallEnd hE Tryz.func23 rfl _ rfl ⟨0, ⟨B, delB beg x.d, or brk (decide (0 ≠ 0))⟩, rfl, rfl, by unfold AbortS; rw [if_neg hs0]; exact ⟨_, ⟨B, hruns, rfl⟩, by rw [if_neg (by omega)]⟩⟩ entA)
end Go.Proofs.YtpecmnaikjbanaaGreatDoor
/- blobs, part i: move, Install. -/
namespace Go.Proofs.YtpecmnaikjbanaaGreatDoor
open Go Go.SL
attribute [local irreducible] J K Ctr Ends pts slc mapR mapI sbRow stock arrS loopP CtrY Sha.chunks Sha.chunk Sha.rounds Sha.sched sumL taggedL GI leafL diskA
def mvF (bd b3 b4 b5 : Nat) : List Value := [.func (.func 107) #[] #[ptr b3, ptr b4], .func (.func 109) #[] #[ptr b3, ptr b4, ptr b5], .func (.func 51) #[ptr bd] #[] ]
def mvX (bs b3 b4 b5 : Nat) (o n : ByteArray) : List HP := [pts b3 (cl [ptr bs] 35), pts b4 (cl [.string o] 9), pts b5 (cl [.string n] 9)]
theorem move_any (bs bd : Nat) (q : Int) (mb : Nat) (brk : Bool) (o n : ByteArray) : Ctr Tryz.prog 65 [ptr bs, .string o, .string n] [pts bs (cl (stC bd q mb brk) 92)]
  (fun r H => ∃ row b3 b4 b5, r = .slice (some ⟨row, 0, none⟩) 3 3 ∧ H = pts row (cl (mvF bd b3 b4 b5) 95) :: pts bs (cl (stC bd q mb brk) 92) :: mvX bs b3 b4 b5 o n) := by
 refine Ctr.enter Tryz.func65 (by kernel_rfl) rfl Tryz.ntmps65 rfl rfl ?_
 intro G F R hE
 refine K_regionA rfl ?_
 refine J_box rfl rfl (fun _ _ _ => trivial) ?_
 intro b3
 refine J_box rfl rfl (fun _ _ _ => trivial) ?_
 intro b4
 refine J_box rfl rfl (fun _ _ _ => trivial) ?_
 intro b5
 refine go ?_
 refine J_buildSlice1 (U := tab) (cs := mvF bd b3 b4 b5) rfl rfl rfl rfl rfl rfl rfl rfl rfl (fun _ _ _ => trivial) ?_
 intro row
 refine go ?_
 refine K_ent (H' := pts row (cl (mvF bd b3 b4 b5) 95) :: pts bs (cl (stC bd q mb brk) 92) :: (mvX bs b3 b4 b5 o n ++ F)) entA ?_
 (first | refine K_return hE Tryz.func65 rfl _ rfl ⟨row, b3, b4, b5, rfl, rfl⟩ entA | refine K_fallEnd hE Tryz.func65 rfl _ rfl ⟨row, b3, b4, b5, rfl, rfl⟩ entA)
theorem mv_steps (bs bd : Nat) (q : Int) (mb : Nat) (brk : Bool) (b3 b4 b5 : Nat) (o n : ByteArray) (A : Ab) (hst : A.states.length ≤ 900000000) (hwl : A.writes.length ≤ 900000000) (i : Nat) (fv : Value) (sp : Stp) (hi : (mvF bd b3 b4 b5)[i]? = some fv) (hs : (moveS o n)[i]? = some sp) :
  ∃ g fi cap, fv = .func (.func g) fi cap ∧ ∀ y, GQ A i y → Ctr Tryz.prog g (fi.toList ++ cap.toList) [stX bs bd q mb brk (Sep (mvX bs b3 b4 b5 o n)) y] (fun r H => ∃ (e : Nat) (x' : Ab), r = .int .i64 (e : Int) ∧ H = [stX bs bd q mb brk (Sep (mvX bs b3 b4 b5 o n)) x'] ∧ sp y e x' ∧ (e = 0 → GQ A (i + 1) x')) := by
 match i, hi, hs with
 | 0, hi, hs =>
  cases hi; cases hs
  refine ⟨_, _, _, rfl, fun y hy => ?_⟩
  have h0 := ctr_frame [pts b5 (cl [.string n] 9)] (move1_any bs bd b3 b4 q mb brk o y (by have := hy.2; omega))
  refine (ctr_stX (p := stSync o y) (Xs := mvX bs b3 b4 b5 o n) (h0.post ?_)).post ?_
  ·rintro r H ⟨_, ⟨e, B, rfl, rfl, h1⟩, rfl⟩
   exact ⟨e, B, rfl, rfl, h1⟩
  ·rintro r H ⟨e, B, rfl, rfl, h1⟩
   exact ⟨e, B, rfl, rfl, h1, fun _ => hy.next (grow_stSync h1)⟩
 | 1, hi, hs =>
  cases hi; cases hs
  refine ⟨_, _, _, rfl, fun y hy => (ctr_stX (move2_any bs bd b3 b4 b5 q mb brk o n y (by have := hy.1; omega))).post ?_⟩
  rintro r H ⟨e, B, rfl, rfl, h1⟩
  exact ⟨e, B, rfl, rfl, h1, fun _ => hy.next (grow_stRename h1)⟩
 | 2, hi, hs =>
  cases hi; cases hs
  refine ⟨_, _, _, rfl, fun y hy => (names_X bs bd q mb brk (mvX bs b3 b4 b5 o n) y).post ?_⟩
  rintro r H ⟨e, B, rfl, rfl, h1⟩
  exact ⟨e, B, rfl, rfl, h1, fun _ => hy.next (grow_stSyncNames h1)⟩
 | k + 3, hi, hs => simp [mvF] at hi
set_option maxRecDepth 20000 in
set_option maxHeartbeats 1000000 in
theorem Install_bl (X : HP) (hK : KAt X) (bs bd : Nat) (q : Int) (mb : Nat) (s : Sto) (x : Bl) (hst : s.A.states.length ≤ 900000000) (hwl : s.A.writes.length ≤ 900000000) : Ctr Tryz.prog 19 [ptr bs, blV x] (stoL bs bd q mb s ++ [X])
  (fun r H => ∃ (e : Nat) (t : Sto), r = .int .i64 (e : Int) ∧ H = stoL bs bd q mb t ++ [X] ∧ InstallS x s e t) := by
 obtain ⟨A, beg, brk⟩ := s
 simp only at hst hwl
 have hmay := may_any bs bd q mb brk beg x
 have hab := Abort_bl bs bd q mb ⟨A, beg, brk⟩ x hst hwl
 have hfb := file_any kB x.d (by decide)
 unfold dV at hfb
 unfold blV at hmay hab ⊢
 refine Ctr.enter Tryz.func19 (by kernel_rfl) rfl Tryz.ntmps19 rfl rfl ?_
 intro G F R hE
 refine K_ent (H' := pts bs (cl (stC bd q mb brk) 92) :: mapR dV mb (begE beg) :: diskA bd A :: X :: F) (Ent.refl _) ?_
 refine K_diskA (bd := bd) (A := A) 2 rfl ?_
 intro hdk
 refine K_regionA rfl ?_
 refine J_box rfl rfl (fun _ _ _ => trivial) ?_
 intro b3
 refine go ?_
 refine J_loadArr (U := tab) (l := blC x) 0 rfl rfl rfl rfl rfl rfl ?_
 ((try refine go ?_); first | refine J_callE rfl rfl rfl rfl (hmay) entA ?_ (fun _ _ _ _ _ => trivial) | refine J_call0E rfl rfl rfl (hmay) entA ?_ (fun _ _ _ _ _ => trivial))
 rintro _ _ ⟨rfl, rfl⟩
 refine go ?_
 refine K_condP rfl rfl ?_ ?_
 ·intro hne
  have hne' : mayS ⟨A, beg, brk⟩ x ≠ 0 := by show mayL brk beg x ≠ 0; omega
  refine go ?_
  refine K_ent (H' := stoL bs bd q mb ⟨A, beg, brk⟩ ++ (X :: F)) entA ?_
  (first | refine K_return hE Tryz.func19 rfl _ rfl ⟨mayL brk beg x, ⟨A, beg, brk⟩, rfl, rfl, by unfold InstallS; rw [if_pos hne']; exact ⟨rfl, rfl⟩⟩ entA | refine K_fallEnd hE Tryz.func19 rfl _ rfl ⟨mayL brk beg x, ⟨A, beg, brk⟩, rfl, rfl, by unfold InstallS; rw [if_pos hne']; exact ⟨rfl, rfl⟩⟩ entA)
 intro heq
 have heq' : ¬ mayS ⟨A, beg, brk⟩ x ≠ 0 := by show ¬ mayL brk beg x ≠ 0; omega
 have hbl := bytesF_len hdk (fS x)
 refine go ?_
 refine J_loadAgg (U := tab) 2 rfl rfl rfl rfl rfl rfl ?_
 ((try refine go ?_); first | refine J_callE rfl rfl rfl rfl (fS_any x) entA ?_ (fun _ _ _ _ _ => trivial) | refine J_call0E rfl rfl rfl (fS_any x) entA ?_ (fun _ _ _ _ _ => trivial))
 rintro _ _ ⟨rfl, rfl⟩
 ((try refine go ?_); first | refine J_callE rfl rfl rfl rfl (bytes_any bs bd q mb brk A (fS x)) entA ?_ (fun _ _ _ _ _ => trivial) | refine J_call0E rfl rfl rfl (bytes_any bs bd q mb brk A (fS x)) entA ?_ (fun _ _ _ _ _ => trivial))
 rintro _ _ ⟨rv, rfl, rfl⟩
 obtain ⟨bb, hbb⟩ : ∃ bb, bb = (bytesF A (fS x)).getD [] := ⟨_, rfl⟩
 rw [← hbb] at hbl ⊢
 refine J_slcB (bs := bb) 0 rfl ?_
 intro hbv
 refine J_ent (Ent.trans (Ent.pick [0, 5] rfl) (Ent.resep [slc 5 1 rv bb.length (bV bb), X] _)) ?_
 have hwh := Whole_any _ (hK.mono (Sep_get (H := [slc 5 1 rv bb.length (bV bb), X]) (i := 1) rfl)) x rv bb (hbv.mono (Sep_get (i := 0) rfl)) (by omega)
 unfold blV at hwh
 refine go ?_
 refine J_loadArr (U := tab) (l := blC x) 4 rfl rfl rfl rfl rfl rfl ?_
 ((try refine go ?_); first | refine J_callE rfl rfl rfl rfl (hwh) entA ?_ (fun _ _ _ _ _ => trivial) | refine J_call0E rfl rfl rfl (hwh) entA ?_ (fun _ _ _ _ _ => trivial))
 rintro _ _ ⟨rfl, rfl⟩
 refine J_ent (Ent.unsep [slc 5 1 rv bb.length (bV bb), X] _) ?_
 cases hw : wholeB x bb with
 | false =>
  have hI : ∀ e1 t, AbortS x ⟨A, beg, brk⟩ e1 t → ∀ e, e = (if e1 ≠ 0 then e1 else 8) → InstallS x ⟨A, beg, brk⟩ e t := fun e1 t h e he => by
   unfold InstallS
   rw [if_neg heq', if_pos (by show wholeB x ((bytesF A (fS x)).getD []) = false; rw [← hbb]; exact hw)]
   exact ⟨e1, h, he⟩
  refine go ?_
  refine J_loadArr (U := tab) (l := blC x) 5 rfl rfl rfl rfl rfl rfl ?_
  ((try refine go ?_); first | refine J_callE rfl rfl rfl rfl (hab) entA ?_ (fun _ _ _ _ _ => trivial) | refine J_call0E rfl rfl rfl (hab) entA ?_ (fun _ _ _ _ _ => trivial))
  rintro _ _ ⟨e1, t, rfl, rfl, habs⟩
  refine go ?_
  refine K_condP rfl rfl ?_ ?_
  ·intro hne1
   have he : e1 ≠ 0 := by omega
   refine go ?_
   refine K_ent (H' := stoL bs bd q mb t ++ (X :: F)) entA ?_
   (first | refine K_return hE Tryz.func19 rfl _ rfl ⟨e1, t, rfl, rfl, hI e1 t habs e1 (by rw [if_pos he])⟩ entA | refine K_fallEnd hE Tryz.func19 rfl _ rfl ⟨e1, t, rfl, rfl, hI e1 t habs e1 (by rw [if_pos he])⟩ entA)
  ·intro heq1
   have he : e1 = 0 := by omega
   refine go ?_
   refine K_ent (H' := stoL bs bd q mb t ++ (X :: F)) entA ?_
   (first | refine K_return hE Tryz.func19 rfl _ rfl ⟨8, t, rfl, rfl, hI e1 t habs 8 (by rw [if_neg (by omega)])⟩ entA | refine K_fallEnd hE Tryz.func19 rfl _ rfl ⟨8, t, rfl, rfl, hI e1 t habs 8 (by rw [if_neg (by omega)])⟩ entA)
 | true =>
  have hwn : ¬ wholeB x ((bytesF A (fS x)).getD []) = false := by rw [← hbb, hw]; simp
  refine go ?_
  refine K_drawA (fun w => Sat G w ([pts b3 (cl (blC x) 32)])) (.st 0 (.st 1 (.st 2 (.st 3 (.st 5 (.st 6 (.act 4 (.act 7 (.act 8 (.act 9 (.st 10 .nil))))))))))) rfl (by kernel_rfl) (by kernel_rfl) (by kernel_rfl) (fun w hw => hw.ent entA) ?_
  refine go ?_
  refine J_loadAggS (U := tab) 0 rfl rfl rfl rfl rfl rfl ?_
  refine go ?_
  refine J_loadAggS (U := tab) 0 rfl rfl rfl rfl rfl rfl ?_
  refine go ?_
  (first | refine J_callE rfl rfl rfl rfl (fS_any x) entA ?_ (fun _ _ w hp hw => by obtain ⟨rfl, rfl⟩ := hp; exact hw.ent entA) | refine J_call0E rfl rfl rfl (fS_any x) entA ?_ (fun _ _ w hp hw => by obtain ⟨rfl, rfl⟩ := hp; exact hw.ent entA))
  rintro _ _ ⟨rfl, rfl⟩
  refine go ?_
  (first | refine J_callE rfl rfl rfl rfl (hfb) entA ?_ (fun _ _ w hp hw => by obtain ⟨rfl, rfl⟩ := hp; exact hw.ent entA) | refine J_call0E rfl rfl rfl (hfb) entA ?_ (fun _ _ w hp hw => by obtain ⟨rfl, rfl⟩ := hp; exact hw.ent entA))
  rintro _ _ ⟨rfl, rfl⟩
  refine go ?_
  (first | refine J_callE rfl rfl rfl rfl (move_any bs bd q mb brk (fS x) (fB x)) entA ?_ (fun _ _ w hp hw => by obtain ⟨row, c3, c4, c5, rfl, rfl⟩ := hp; exact hw.ent entA) | refine J_call0E rfl rfl rfl (move_any bs bd q mb brk (fS x) (fB x)) entA ?_ (fun _ _ w hp hw => by obtain ⟨row, c3, c4, c5, rfl, rfl⟩ := hp; exact hw.ent entA))
  rintro _ _ ⟨row, c3, c4, c5, rfl, rfl⟩
  have hch := changeS_any bs bd q mb brk (Sep (mvX bs c3 c4 c5 (fS x) (fB x))) (pts row (cl (mvF bd c3 c4 c5) 95)) (.slice (some ⟨row, 0, none⟩) 3 3) (mvF bd c3 c4 c5) (Vw.pts rfl) (by show 3 ≤ _; omega) (moveS (fS x) (fB x)) rfl (GQ A) (mv_steps bs bd q mb brk c3 c4 c5 (fS x) (fB x) A hst hwl) A (GQ.zero A)
  refine go ?_
  refine J_ent (H' := pts row (cl (mvF bd c3 c4 c5) 95) :: stX bs bd q mb brk (Sep (mvX bs c3 c4 c5 (fS x) (fB x))) A :: mapR dV mb (begE beg) :: pts b3 (cl (blC x) 32) :: X :: F) (Ent.trans (H2 := pts bs (cl (stC bd q mb brk) 92) :: diskA bd A :: (mvX bs c3 c4 c5 (fS x) (fB x) ++ (pts row (cl (mvF bd c3 c4 c5) 95) :: mapR dV mb (begE beg) :: pts b3 (cl (blC x) 32) :: X :: F))) entA (Ent.trans (stX_in bs bd q mb brk _ A _) entA)) ?_
  (first | refine J_callE rfl rfl rfl rfl (hch) entA ?_ (fun _ _ w hp hw => by obtain ⟨e, B, rfl, rfl, hruns, _⟩ := hp; exact hw.ent entA) | refine J_call0E rfl rfl rfl (hch) entA ?_ (fun _ _ w hp hw => by obtain ⟨e, B, rfl, rfl, hruns, _⟩ := hp; exact hw.ent entA))
  rintro _ _ ⟨e, B, rfl, rfl, hruns, -⟩
  refine J_ent (Ent.trans (Ent.pick [1] rfl) (stX_out bs bd q mb (brk || decide (e ≠ 0)) _ B _)) ?_
  have hI : ∀ t, t = (if e ≠ 0 then (⟨B, beg, brk || decide (e ≠ 0)⟩ : Sto) else ⟨B, delB beg x.d, brk || decide (e ≠ 0)⟩) → InstallS x ⟨A, beg, brk⟩ e t := fun t ht => by
   unfold InstallS
   rw [if_neg heq', if_neg hwn]
   exact ⟨_, ⟨B, hruns, rfl⟩, ht⟩
  refine go ?_
  refine K_condP rfl rfl ?_ ?_
  ·intro hne1
   have he : e ≠ 0 := by omega
   refine go ?_
   refine K_ent (H' := stoL bs bd q mb ⟨B, beg, brk || decide (e ≠ 0)⟩ ++ (X :: F)) entA ?_
   (first | refine K_return hE Tryz.func19 rfl _ rfl ⟨e, ⟨B, beg, or brk (decide (e ≠ 0))⟩, rfl, rfl, hI _ (by rw [if_pos he])⟩ entA | refine K_fallEnd hE Tryz.func19 rfl _ rfl ⟨e, ⟨B, beg, or brk (decide (e ≠ 0))⟩, rfl, rfl, hI _ (by rw [if_pos he])⟩ entA)
  ·intro heq1
   have he : e = 0 := by omega
   subst he
   refine go ?_
   refine K_drawA (fun w => Sat G w ([pts bs (cl (stC bd q mb (or brk (decide (0 ≠ 0)))) 92), pts b3 (cl (blC x) 32)])) (.st 0 (.st 1 (.st 2 (.st 3 (.st 4 (.st 5 (.act 6 .nil))))))) rfl (by kernel_rfl) (by kernel_rfl) (by kernel_rfl) (fun w hw => hw.ent entA) ?_
   refine go ?_
   refine J_loadAggS (U := tab) 1 rfl rfl rfl rfl rfl rfl ?_
   refine go ?_
   refine J_delete (U := tab) (es := begE beg) (key := x.d) 6 kDg (fun w hw => by exact trivial) rfl rfl rfl rfl rfl rfl rfl ?_
   rw [begE_del]
   refine go ?_
   refine K_ent (H' := stoL bs bd q mb ⟨B, delB beg x.d, brk || decide (0 ≠ 0)⟩ ++ (X :: F)) entA ?_
   (first | refine K_return hE Tryz.func19 rfl _ rfl ⟨0, ⟨B, delB beg x.d, or brk (decide (0 ≠ 0))⟩, rfl, rfl, hI _ (by rw [if_neg (by omega)])⟩ entA | refine K_fallEnd hE Tryz.func19 rfl _ rfl ⟨0, ⟨B, delB beg x.d, or brk (decide (0 ≠ 0))⟩, rfl, rfl, hI _ (by rw [if_neg (by omega)])⟩ entA)
end Go.Proofs.YtpecmnaikjbanaaGreatDoor
/- blobs, part j: Put. -/
namespace Go.Proofs.YtpecmnaikjbanaaGreatDoor
open Go Go.SL
attribute [local irreducible] J K Ctr Ends pts slc mapR mapI sbRow stock arrS loopP CtrY Sha.chunks Sha.chunk Sha.rounds Sha.sched sumL taggedL GI leafL diskA
set_option maxRecDepth 20000 in
set_option maxHeartbeats 1000000 in
theorem Put_bl (X : HP) (bs bd : Nat) (q : Int) (mb : Nat) (s : Sto) (x : Bl) (i : Int) (bv : Value) (b : List UInt8) (hv : Vw X bv b.length (bV b)) (hbl : b.length ≤ 1000000000) (hi : -9223372036854775808 ≤ i ∧ i ≤ 9223372036854775807) (hst : s.A.states.length ≤ 900000000) (hwl : s.A.writes.length ≤ 900000000) :
  Ctr Tryz.prog 18 [ptr bs, blV x, .int .i64 i, bv] (stoL bs bd q mb s ++ [X])
  (fun r H => ∃ (e : Nat) (t : Sto), r = .int .i64 (e : Int) ∧ H = stoL bs bd q mb t ++ [X] ∧ PutS x i b s e t) := by
 obtain ⟨A, beg, brk⟩ := s
 simp only at hst hwl
 obtain ⟨a, c, rfl⟩ := hv.shape
 have hmay := may_any bs bd q mb brk beg x
 unfold blV at hmay ⊢
 refine Ctr.enter Tryz.func18 (by kernel_rfl) rfl Tryz.ntmps18 rfl rfl ?_
 intro G F R hE
 refine K_ent (H' := pts bs (cl (stC bd q mb brk) 92) :: mapR dV mb (begE beg) :: diskA bd A :: X :: F) (Ent.refl _) ?_
 refine K_regionA rfl ?_
 refine J_box rfl rfl (fun _ _ _ => trivial) ?_
 intro b4
 refine J_box rfl rfl (fun _ _ _ => trivial) ?_
 intro b5
 refine J_box rfl rfl (fun _ _ _ => trivial) ?_
 intro b7
 refine go ?_
 refine J_loadArr (U := tab) (l := blC x) 1 rfl rfl rfl rfl rfl rfl ?_
 ((try refine go ?_); first | refine J_callE rfl rfl rfl rfl (hmay) entA ?_ (fun _ _ _ _ _ => trivial) | refine J_call0E rfl rfl rfl (hmay) entA ?_ (fun _ _ _ _ _ => trivial))
 rintro _ _ ⟨rfl, rfl⟩
 refine go ?_
 refine K_condP rfl rfl ?_ ?_
 ·intro hne
  have hne' : mayS ⟨A, beg, brk⟩ x ≠ 0 := by show mayL brk beg x ≠ 0; omega
  refine go ?_
  refine K_ent (H' := stoL bs bd q mb ⟨A, beg, brk⟩ ++ (X :: F)) entA ?_
  (first | refine K_return hE Tryz.func18 rfl _ rfl ⟨mayL brk beg x, ⟨A, beg, brk⟩, rfl, rfl, by unfold PutS; rw [if_pos hne']; exact ⟨rfl, rfl⟩⟩ entA | refine K_fallEnd hE Tryz.func18 rfl _ rfl ⟨mayL brk beg x, ⟨A, beg, brk⟩, rfl, rfl, by unfold PutS; rw [if_pos hne']; exact ⟨rfl, rfl⟩⟩ entA)
 intro heq
 have heq' : ¬ mayS ⟨A, beg, brk⟩ x ≠ 0 := by show ¬ mayL brk beg x ≠ 0; omega
 refine go ?_
 refine J_loadArr (U := tab) (l := blC x) 3 rfl rfl rfl rfl rfl rfl ?_
 have hspan := Span_any x i
 unfold blV at hspan
 have hP1 : ∀ (e : Nat) (t : Sto), spanB x i = none → e = 1 → t = ⟨A, beg, brk⟩ → PutS x i b ⟨A, beg, brk⟩ e t := fun e t h he ht => by
  unfold PutS; rw [if_neg heq', h]; exact ⟨he, ht⟩
 have hP2 : ∀ (at_ n : Int), spanB x i = some (at_, n) → (b.length : Int) ≠ n → PutS x i b ⟨A, beg, brk⟩ 1 ⟨A, beg, brk⟩ := fun at_ n h hl => by
  unfold PutS; rw [if_neg heq', h]; dsimp only; rw [if_pos hl]; exact ⟨rfl, rfl⟩
 have hP3 : ∀ (at_ n : Int) (e : Nat) (t : Sto), spanB x i = some (at_, n) → ¬ (b.length : Int) ≠ n → chgS [stWrite (fS x) at_.toNat b] ⟨A, beg, brk⟩ e t → PutS x i b ⟨A, beg, brk⟩ e t := fun at_ n e t h hl hc => by
  unfold PutS; rw [if_neg heq', h]; dsimp only; rw [if_neg hl]; exact hc
 have hat : ∀ at_ n, spanB x i = some (at_, n) → 0 ≤ at_ ∧ at_ ≤ 9223372036854775807 := fun at_ n h => by
  unfold spanB at h
  split at h
  ·cases h
  ·rename_i hn
   injection h with h
   injection h with h1 h2
   obtain ⟨hr, hm0, hms⟩ := span_lt (x := x) (i := i) (by omega) (by omega)
   simp only [rightB, decide_eq_true_eq] at hr
   omega
 refine go ?_
 ((try refine go ?_); first | refine J_callE rfl rfl rfl rfl (hspan) entA ?_ (fun _ _ _ _ _ => trivial) | refine J_call0E rfl rfl rfl (hspan) entA ?_ (fun _ _ _ _ _ => trivial))
 rintro _ _ ⟨rfl, rfl⟩
 cases hsp : spanB x i with
 | none =>
  simp only
  refine go ?_
  refine J_alloc (U := tab) rfl rfl rfl (fun _ _ _ => trivial) ?_
  intro b10
  refine go ?_
  refine K_ent (H' := stoL bs bd q mb ⟨A, beg, brk⟩ ++ (X :: F)) entA ?_
  (first | refine K_return hE Tryz.func18 rfl _ rfl ⟨1, ⟨A, beg, brk⟩, rfl, rfl, hP1 _ _ hsp rfl rfl⟩ entA | refine K_fallEnd hE Tryz.func18 rfl _ rfl ⟨1, ⟨A, beg, brk⟩, rfl, rfl, hP1 _ _ hsp rfl rfl⟩ entA)
 | some w =>
  obtain ⟨at_, n⟩ := w
  simp only
  refine go ?_
  refine J_alloc (U := tab) rfl rfl rfl (fun _ _ _ => trivial) ?_
  intro b10
  refine go ?_
  refine K_condP rfl rfl ?_ ?_
  ·intro hln
   have hl : (b.length : Int) ≠ n := hln
   refine go ?_
   refine K_ent (H' := stoL bs bd q mb ⟨A, beg, brk⟩ ++ (X :: F)) entA ?_
   (first | refine K_return hE Tryz.func18 rfl _ rfl ⟨1, ⟨A, beg, brk⟩, rfl, rfl, hP2 at_ n hsp hl⟩ entA | refine K_fallEnd hE Tryz.func18 rfl _ rfl ⟨1, ⟨A, beg, brk⟩, rfl, rfl, hP2 at_ n hsp hl⟩ entA)
  ·intro hln
   have hl : ¬ (b.length : Int) ≠ n := hln
   obtain ⟨Y, hY⟩ : ∃ Y, Y = ([pts b4 (cl [ptr bs] 35), pts b5 (cl (blC x) 32), pts b10 (cl [.int .i64 at_] 3), pts b7 (cl [.slice a b.length c] 22), X] : List HP) := ⟨_, rfl⟩
   have hin : ∀ F, Ent (pts bs (cl (stC bd q mb brk) 92) :: diskA bd A :: ([pts b4 (cl [ptr bs] 35), pts b5 (cl (blC x) 32), pts b10 (cl [.int .i64 at_] 3), pts b7 (cl [.slice a b.length c] 22), X] ++ F)) (stX bs bd q mb brk (Sep Y) A :: F) := fun F => by rw [hY]; exact stX_in bs bd q mb brk _ A F
   have hout : ∀ (bk : Bool) B F, Ent (stX bs bd q mb bk (Sep Y) B :: F) (pts bs (cl (stC bd q mb bk) 92) :: diskA bd B :: ([pts b4 (cl [ptr bs] 35), pts b5 (cl (blC x) 32), pts b10 (cl [.int .i64 at_] 3), pts b7 (cl [.slice a b.length c] 22), X] ++ F)) := fun bk B F => by rw [hY]; exact stX_out bs bd q mb bk _ B F
   have hst1 : ∀ (i : Nat) (fv : Value) (sp : Stp), [.func (.func 61) #[] #[ptr b4, ptr b5, ptr b10, ptr b7] ][i]? = some fv → [stWrite (fS x) at_.toNat b][i]? = some sp → ∃ g fi cap, fv = .func (.func g) fi cap ∧ ∀ y, GQ A i y → Ctr Tryz.prog g (fi.toList ++ cap.toList) [stX bs bd q mb brk (Sep Y) y] (fun r H => ∃ (e : Nat) (x' : Ab), r = .int .i64 (e : Int) ∧ H = [stX bs bd q mb brk (Sep Y) x'] ∧ sp y e x' ∧ (e = 0 → GQ A (i + 1) x')) := by
    intro i fv sp hi hs
    match i, hi, hs with
    | 0, hi, hs =>
     cases hi; cases hs
     refine ⟨_, _, _, rfl, fun y hy => ?_⟩
     subst hY
     have h0 := put1_any bs bd b4 b5 b10 b7 q mb brk x at_ X (.slice a b.length c) b hv y (by have := hy.2; omega) hbl (hat at_ n hsp)
     refine (ctr_stX (p := stWrite (fS x) at_.toNat b y) h0).post ?_
     rintro r H ⟨e, B, rfl, rfl, h1⟩
     exact ⟨e, B, rfl, rfl, h1, fun _ => hy.next (grow_stWrite h1)⟩
    | k + 1, hi, hs => simp at hi
   refine go ?_
   refine J_buildSlice1 (U := tab) (cs := [.func (.func 61) #[] #[ptr b4, ptr b5, ptr b10, ptr b7] ]) rfl rfl rfl rfl rfl rfl rfl rfl rfl (fun _ _ _ => trivial) ?_
   intro row
   have hch := changeS_any bs bd q mb brk (Sep Y) (pts row (cl [.func (.func 61) #[] #[ptr b4, ptr b5, ptr b10, ptr b7] ] 95)) (.slice (some ⟨row, 0, none⟩) 1 1) [.func (.func 61) #[] #[ptr b4, ptr b5, ptr b10, ptr b7] ] (Vw.pts rfl) (by show 1 ≤ _; omega) [stWrite (fS x) at_.toNat b] rfl (GQ A) hst1 A (GQ.zero A)
   refine J_ent (H' := pts row (cl [.func (.func 61) #[] #[ptr b4, ptr b5, ptr b10, ptr b7] ] 95) :: stX bs bd q mb brk (Sep Y) A :: mapR dV mb (begE beg) :: F) (Ent.trans (H2 := pts bs (cl (stC bd q mb brk) 92) :: diskA bd A :: ([pts b4 (cl [ptr bs] 35), pts b5 (cl (blC x) 32), pts b10 (cl [.int .i64 at_] 3), pts b7 (cl [.slice a b.length c] 22), X] ++ (pts row (cl [.func (.func 61) #[] #[ptr b4, ptr b5, ptr b10, ptr b7] ] 95) :: mapR dV mb (begE beg) :: F))) entA (Ent.trans (hin _) entA)) ?_
   ((try refine go ?_); first | refine J_callE rfl rfl rfl rfl (hch) entA ?_ (fun _ _ _ _ _ => trivial) | refine J_call0E rfl rfl rfl (hch) entA ?_ (fun _ _ _ _ _ => trivial))
   rintro _ _ ⟨e, B, rfl, rfl, hruns, -⟩
   refine go ?_
   refine K_ent (H' := stoL bs bd q mb ⟨B, beg, brk || decide (e ≠ 0)⟩ ++ (X :: F)) (Ent.trans (Ent.pick [1] rfl) (Ent.trans (hout _ B _) entA)) ?_
   (first | refine K_return hE Tryz.func18 rfl _ rfl ⟨e, ⟨B, beg, or brk (decide (e ≠ 0))⟩, rfl, rfl, hP3 at_ n e _ hsp hl ⟨B, hruns, rfl⟩⟩ entA | refine K_fallEnd hE Tryz.func18 rfl _ rfl ⟨e, ⟨B, beg, or brk (decide (e ≠ 0))⟩, rfl, rfl, hP3 at_ n e _ hsp hl ⟨B, hruns, rfl⟩⟩ entA)
end Go.Proofs.YtpecmnaikjbanaaGreatDoor
/- blobs, part k: Used. -/
namespace Go.Proofs.YtpecmnaikjbanaaGreatDoor
open Go Go.SL
attribute [local irreducible] J K Ctr Ends pts slc mapR mapI sbRow stock arrS loopP CtrY Sha.chunks Sha.chunk Sha.rounds Sha.sched sumL taggedL GI leafL diskA
def oneU (A : Ab) (nm : ByteArray) : Nat := if (hashN kB nm).isSome then (A.size nm).1 else 0
theorem sum_map_perm {α : Type} {l m : List α} (h : l.Perm m) (f : α → Nat) : (l.map f).sum = (m.map f).sum := by
 induction h with
 | nil => rfl
 | cons x _ ih => simp [ih]
 | swap x y l => simp; omega
 | trans _ _ ih1 ih2 => exact ih1.trans ih2
theorem look_of_mem {A : Ab} (h : (A.names.map (·.1)).Nodup) {x : ByteArray × Nat} (hx : x ∈ A.names) : A.look x.1 = some x.2 := by
 have key : ∀ (l : List (ByteArray × Nat)), (l.map (·.1)).Nodup → x ∈ l → (l.find? (fun y => decide (y.1 = x.1))).map (·.2) = some x.2 := by
  intro l
  induction l with
  | nil => intro _ h; cases h
  | cons y l ih =>
   intro hn hm
   rw [List.map_cons, List.nodup_cons] at hn
   rw [List.find?_cons]
   rcases List.mem_cons.1 hm with rfl | hm
   ·simp
   ·have : y.1 ≠ x.1 := fun e => hn.1 (List.mem_map.2 ⟨x, hm, e.symm⟩)
    simp only [this, decide_false]
    exact ih hn.2 hm
 exact key A.names h hx
theorem namesF_perm (A : Ab) : (namesF A).Perm (A.names.map (·.1)) := by
 unfold namesF keysA
 have h := (sortB_perm0 (A.names.map (·.1))).map strOf
 rw [List.map_map] at h
 have h2 : (A.names.map (·.1)).map (strOf ∘ fun b => b.data.toList) = A.names.map (·.1) := by
  rw [List.map_map]
  refine List.map_congr_left fun x _ => ?_
  exact strOf_data x.1
 rwa [h2] at h
theorem used_names {A : Ab} (h : (A.names.map (·.1)).Nodup) : usedF A = ((namesF A).map (oneU A)).sum := by
 rw [sum_map_perm (namesF_perm A), List.map_map]
 unfold usedF
 congr 1
 refine List.map_congr_left fun x hx => ?_
 have hl := look_of_mem h hx
 simp only [Function.comp, oneU, Ab.size, hl]
theorem oneU_le {A : Ab} (h : DOk A) (nm : ByteArray) : oneU A nm ≤ 1048576 := by
 unfold oneU Ab.size
 split
 ·cases A.look nm with
  | none => simp
  | some f => exact h.now f
 ·omega
theorem sum_le_of {α : Type} (l : List α) (f : α → Nat) (m : Nat) (h : ∀ x ∈ l, f x ≤ m) : (l.map f).sum ≤ l.length * m := by
 induction l with
 | nil => simp
 | cons x l ih =>
  have h1 := h x (List.mem_cons_self ..)
  have h2 := ih (fun y hy => h y (List.mem_cons_of_mem _ hy))
  simp only [List.map_cons, List.sum_cons, List.length_cons, Nat.add_mul, Nat.one_mul]
  omega
def metS (beg : List (Dg × Bl)) (dn : List Dg) : Int := ((beg.filter fun x => decide (x.1 ∈ dn)).map (·.2.size)).sum
theorem metS_nil (beg : List (Dg × Bl)) : metS beg [] = 0 := by unfold metS; rw [List.filter_eq_nil_iff.2 (by simp)]; rfl
theorem metS_all (beg : List (Dg × Bl)) (dn : List Dg) (h : ∀ x ∈ beg, x.1 ∈ dn) : metS beg dn = (beg.map (·.2.size)).sum := by
 unfold metS
 rw [List.filter_eq_self.2 (fun x hx => decide_eq_true (h x hx))]
theorem metS_none (beg : List (Dg × Bl)) (key : Dg) (dn : List Dg) (h : key ∉ beg.map (·.1)) : metS beg (key :: dn) = metS beg dn := by
 unfold metS
 congr 2
 refine List.filter_congr fun x hx => ?_
 have : x.1 ≠ key := fun e => h (List.mem_map.2 ⟨x, hx, e⟩)
 simp [this]
theorem metS_cons (beg : List (Dg × Bl)) (key : Dg) (y : Bl) (dn : List Dg) (hn : (beg.map (·.1)).Nodup) (hm : (key, y) ∈ beg) (hd : key ∉ dn) : metS beg (key :: dn) = metS beg dn + y.size := by
 induction beg with
 | nil => cases hm
 | cons x l ih =>
  rw [List.map_cons, List.nodup_cons] at hn
  rcases List.mem_cons.1 hm with rfl | hm
  ·have h1 := metS_none l key dn hn.1
   unfold metS at h1 ⊢
   rw [List.filter_cons, List.filter_cons]
   simp only [List.mem_cons, true_or, decide_true, if_true, hd, decide_false, Bool.false_eq_true, if_false, List.map_cons, List.sum_cons]
   simp only [List.mem_cons] at h1
   rw [h1]
   omega
  ·have hne : x.1 ≠ key := fun e => hn.1 (List.mem_map.2 ⟨_, hm, e.symm⟩)
   have h1 := ih hn.2 hm
   unfold metS at h1 ⊢
   rw [List.filter_cons, List.filter_cons]
   by_cases hx : x.1 ∈ dn
   ·simp only [List.mem_cons, hx, or_true, decide_true, if_true, List.map_cons, List.sum_cons] at h1 ⊢
    omega
   ·simp only [List.mem_cons, hx, hne, or_self, decide_false, Bool.false_eq_true, if_false] at h1 ⊢
    exact h1
theorem metS_le (beg : List (Dg × Bl)) (dn : List Dg) (h : ∀ x ∈ beg, 0 ≤ x.2.size ∧ x.2.size ≤ 1048576) : 0 ≤ metS beg dn ∧ metS beg dn ≤ beg.length * 1048576 := by
 unfold metS
 induction beg with
 | nil => simp
 | cons x l ih =>
  obtain ⟨h1, h2⟩ := h x (List.mem_cons_self ..)
  obtain ⟨h3, h4⟩ := ih (fun y hy => h y (List.mem_cons_of_mem _ hy))
  rw [List.filter_cons]
  split
  ·simp only [List.map_cons, List.sum_cons, List.length_cons, Int.natCast_add]; omega
  ·simp only [List.length_cons, Int.natCast_add]; omega
def BegOk (beg : List (Dg × Bl)) : Prop := (∀ x ∈ beg, 0 ≤ x.2.size ∧ x.2.size ≤ 1048576) ∧ beg.length ≤ 1000000
set_option maxRecDepth 20000 in
set_option maxHeartbeats 1000000 in
theorem Used_bl (bs bd : Nat) (q : Int) (mb : Nat) (s : Sto) (hb : BegOk s.beg) : Ctr Tryz.prog 21 [ptr bs] (stoL bs bd q mb s)
  (fun r H => r = .int .i64 (usedS s) ∧ H = stoL bs bd q mb s) := by
 obtain ⟨A, beg, brk⟩ := s
 obtain ⟨hb1, hb2⟩ := hb
 simp only at hb1 hb2
 refine Ctr.enter Tryz.func21 (by kernel_rfl) rfl Tryz.ntmps21 rfl rfl ?_
 intro G F R hE
 refine K_ent (H' := pts bs (cl (stC bd q mb brk) 92) :: diskA bd A :: mapR dV mb (begE beg) :: F) entA ?_
 refine K_diskA (bd := bd) (A := A) 1 rfl ?_
 intro hdk
 have hn200 := namesF_len hdk
 have hus : usedS ⟨A, beg, brk⟩ = ((namesF A).map (oneU A)).sum + (beg.map (·.2.size)).sum := by
  unfold usedS
  rw [used_names (hdk.nodup _ (List.mem_cons_self ..))]
 obtain ⟨l, hl⟩ : ∃ l, l = namesF A := ⟨_, rfl⟩
 rw [← hl] at hus hn200
 rw [hus] at hE
 have hle : ∀ i, ((l.take i).map (oneU A)).sum ≤ 209715200 := fun i => by
  have h1 := sum_le_of (l.take i) (oneU A) 1048576 (fun x _ => oneU_le hdk x)
  have h2 : (l.take i).length ≤ 200 := by rw [List.length_take]; omega
  omega
 refine go ?_
 have hnm := Names_dB bd A
 rw [← hl] at hnm
 ((try refine go ?_); first | refine J_callE rfl rfl rfl rfl (hnm) entA ?_ (fun _ _ _ _ _ => trivial) | refine J_call0E rfl rfl rfl (hnm) entA ?_ (fun _ _ _ _ _ => trivial))
 rintro r _ rfl
 (first | refine J_shape 0 rfl ?_ | refine K_shape 0 rfl ?_)
 rintro ra rc rfl
 refine J_slcVw 0 rfl ?_
 intro hvw
 refine go ?_
 refine K_loop (fun i : Nat => i ≤ l.length) (fun i => l.length - i)
  (fun i => [(0, ptr bs), (3, .int .i64 (((l.take i).map (oneU A)).sum : Nat)), (16, .slice ra l.length rc), (17, .int .i64 (l.length : Int)), (18, .int .i64 (i : Int))])
  (fun i => slc 9 1 (.slice ra l.length rc) l.length (l.map Value.string) :: pts bs (cl (stC bd q mb brk) 92) :: diskA bd A :: mapR dV mb (begE beg) :: F) 0 (Nat.zero_le _) rfl (by repeat (first | exact keep_nil | refine keep_cons rfl ?_)) entA ?_
 rintro i hi ih
 have hli := hle i
 refine go ?_
 refine K_condP rfl rfl ?_ ?_
 ·intro hlt
  have hi' : i < l.length := by omega
  obtain ⟨nm, hx⟩ : ∃ x, l[i]? = some x := ⟨l[i], by simp⟩
  have hstep : ((l.take (i + 1)).map (oneU A)).sum = ((l.take i).map (oneU A)).sum + oneU A nm := by
   rw [List.take_add_one, hx]; simp
  have hcell : (l.map Value.string)[i]? = some (.string nm) := by rw [List.getElem?_map, hx]; rfl
  have hone := oneU_le hdk nm
  obtain ⟨b, o, cap', hsl⟩ := hvw.some (by intro h; rw [h] at hcell; simp at hcell)
  simp only [Value.slice.injEq] at hsl
  obtain ⟨rfl, _, rfl⟩ := hsl
  refine go ?_
  refine J_at (U := tab) i 1 rfl rfl rfl rfl rfl rfl rfl rfl hi' ?_
  refine J_isLoad ?_
  refine J_loadAt (U := tab) 0 (i * 1) rfl rfl rfl hvw rfl (by rw [Nat.mul_one]; exact hcell) rfl rfl ?_
  refine go ?_
  ((try refine go ?_); first | refine J_callE rfl rfl rfl rfl (hash_any kB nm (by decide)) entA ?_ (fun _ _ _ _ _ => trivial) | refine J_call0E rfl rfl rfl (hash_any kB nm (by decide)) entA ?_ (fun _ _ _ _ _ => trivial))
  rintro _ _ ⟨rfl, rfl⟩
  cases hh : hashN kB nm with
  | none =>
   have hz : oneU A nm = 0 := by unfold oneU; rw [hh]; rfl
   have hstep' : ((l.take i).map (oneU A)).sum = ((l.take (i + 1)).map (oneU A)).sum := by omega
   simp only [hashV]
   unfold dV
   refine go ?_
   refine J_alloc (U := tab) rfl rfl rfl (fun _ _ _ => trivial) ?_
   intro b9
   refine go ?_
   rw [hstep']
   refine K_again ih (i + 1) rfl (by omega) (by omega) (by repeat (first | exact keep_nil | refine keep_cons rfl ?_)) entA
  | some d =>
   have hz : oneU A nm = (A.size nm).1 := by unfold oneU; rw [hh]; rfl
   rw [hz] at hstep hone
   simp only [hashV]
   unfold dV
   refine go ?_
   refine J_alloc (U := tab) rfl rfl rfl (fun _ _ _ => trivial) ?_
   intro b9
   refine go ?_
   ((try refine go ?_); first | refine J_callE rfl rfl rfl rfl (Size_dA bd A nm) entA ?_ (fun _ _ _ _ _ => trivial) | refine J_call0E rfl rfl rfl (Size_dA bd A nm) entA ?_ (fun _ _ _ _ _ => trivial))
   rintro _ _ ⟨rfl, rfl⟩
   refine go ?_
   refine K_slot 3 (.int .i64 (((l.take (i + 1)).map (oneU A)).sum : Nat)) rfl (congrArg (Value.int .i64) (by rw [hstep]; omega)) ?_
   refine K_again ih (i + 1) rfl (by omega) (by omega) (by repeat (first | exact keep_nil | refine keep_cons rfl ?_)) entA
 ·intro hge
  have hie : i = l.length := by omega
  subst hie
  rw [List.take_length]
  obtain ⟨n0, hn0⟩ : ∃ n0, n0 = (l.map (oneU A)).sum := ⟨_, rfl⟩
  rw [List.take_length] at hli
  rw [← hn0] at hli hE ⊢
  refine K_sat fun ⟨w, hw⟩ => ?_
  have hnd : (beg.map (·.1)).Nodup := by
   obtain ⟨h1, hA⟩ := getA_ex hw (i := 3) rfl
   have := mapR_nodup hA
   unfold begE at this
   rwa [List.map_map] at this
  clear hw w
  refine go ?_
  refine J_range (kv := dV) (es := begE beg) (U := tab) 3 rfl rfl rfl rfl rfl (fun _ => rfl) (fun _ _ _ => trivial) ?_
  intro it
  refine go ?_
  have hkeys : (begE beg).map (·.1) = beg.map (·.1) := by unfold begE; rw [List.map_map]; rfl
  have hsz : ∀ dn, 0 ≤ metS beg dn ∧ metS beg dn ≤ 1048576000000 := fun dn => by
   have := metS_le beg dn hb1
   omega
  have h00 : (n0 : Int) = (n0 : Int) + metS beg [] := by rw [metS_nil]; omega
  refine K_slot 3 (.int .i64 ((n0 : Int) + metS beg [])) rfl (congrArg (Value.int .i64) h00) ?_
  refine K_loop (fun s : List Dg => s.Nodup ∧ ∀ x ∈ s, x ∈ beg.map (·.1)) (fun s => beg.length - s.length) (fun s => [(0, ptr bs), (3, .int .i64 ((n0 : Int) + metS beg s)), (45, .pointer (some ⟨it, 0, none⟩))])
   (fun s => mapI dV mb it (begE beg) s :: pts bs (cl (stC bd q mb brk) 92) :: diskA bd A :: F) [] ⟨List.nodup_nil, by simp⟩ rfl (by repeat (first | exact keep_nil | refine keep_cons rfl ?_)) entA ?_
  clear ih
  rintro dn ⟨hdn, hsub⟩ ih
  have hsd := hsz dn
  refine go ?_
  refine J_next (kv := dV) (es := begE beg) 0 rfl kDg.inj rfl rfl (fun _ => rfl) (fun _ _ => trivial) (fun _ _ _ => trivial) ?_ ?_
  ·intro hall
   have hme : metS beg dn = (beg.map (·.2.size)).sum := metS_all beg dn (fun x hx => hall (x.1, blV x.2) (List.mem_map.2 ⟨x, hx, rfl⟩))
   rw [hme]
   refine go ?_
   refine K_ent (Ent.head (B := [mapR dV mb (begE beg)]) (fun h hs => by obtain ⟨h', s, hm⟩ := mapI_mapR h hs; exact ⟨h', s, Sep_one' hm⟩)) ?_
   refine K_ent (H' := stoL bs bd q mb ⟨A, beg, brk⟩ ++ F) entA ?_
   (first | refine K_return hE Tryz.func21 rfl _ rfl ⟨rfl, rfl⟩ entA | refine K_fallEnd hE Tryz.func21 rfl _ rfl ⟨rfl, rfl⟩ entA)
  ·intro key v hmem hnot
   obtain ⟨y, hy, hye⟩ : ∃ y, (key, y) ∈ beg ∧ v = blV y := by
    obtain ⟨z, hz, he⟩ := List.mem_map.1 hmem
    cases he
    exact ⟨z.2, hz, rfl⟩
   subst hye
   have hms := metS_cons beg key y dn hnd hy hnot
   have hsd2 := hsz (key :: dn)
   have hk : key ∈ beg.map (·.1) := List.mem_map.2 ⟨_, hy, rfl⟩
   have hlt : dn.length < beg.length := by
    have h1 : (key :: dn).length ≤ (beg.map (·.1)).length := (List.nodup_cons.2 ⟨hnot, hdn⟩).length_le_of_subset (fun x hx => by rcases List.mem_cons.1 hx with rfl | h; exact hk; exact hsub x h)
    simp only [List.length_cons, List.length_map] at h1
    omega
   refine go ?_
   refine J_entry (kv := dV) (es := begE beg) 0 rfl kDg.inj rfl rfl hmem ?_
   unfold blV
   refine go ?_
   refine J_alloc (U := tab) rfl rfl rfl (fun _ _ _ => trivial) ?_
   intro b11
   refine go ?_
   refine K_slot 3 (.int .i64 ((n0 : Int) + metS beg (key :: dn))) rfl (congrArg (Value.int .i64) (by rw [hms]; omega)) ?_
   refine K_again ih (key :: dn) rfl (⟨List.nodup_cons.2 ⟨hnot, hdn⟩, fun x hx => by rcases List.mem_cons.1 hx with rfl | h; exact hk; exact hsub x h⟩) (by show _ - (key :: dn).length < _; simp only [List.length_cons]; omega) (by repeat (first | exact keep_nil | refine keep_cons rfl ?_)) entA
end Go.Proofs.YtpecmnaikjbanaaGreatDoor
/- blobs, plain: a disk to which nothing happens, as what each name has. -/
namespace Go.Proofs.YtpecmnaikjbanaaGreatDoor
open Go Go.SL
structure HA (A : Ab) : Prop where
 plan : A.plan = []
 on : A.off = false
 keys : (A.names.map (·.1)).Nodup
 own : (A.names.map (·.2)).Nodup
 ids : (A.fs.map (·.1)).Nodup
 known : ∀ x ∈ A.names, x.2 ∈ A.fs.map (·.1)
def vw (A : Ab) (nm : ByteArray) : Option (List UInt8) := (A.look nm).map A.now
theorem HA.new (room : Nat) : HA (Ab.new room) := ⟨rfl, rfl, List.nodup_nil, List.nodup_nil, List.nodup_nil, fun _ h => by cases h⟩
theorem HA.meet {A : Ab} (h : HA A) : A.meet true = (0, A) := by unfold Ab.meet; rw [if_neg (by simp), if_neg (by rw [h.on]; simp), h.plan]
theorem HA.find {A : Ab} (h : HA A) (nm : ByteArray) : A.find nm true = match A.look nm with | none => (4, none, A) | some f => (0, some f, A) := by
 unfold Ab.find
 rw [h.meet, if_pos rfl]
 dsimp only
 cases A.look nm <;> rfl
theorem look_mem {A : Ab} {nm : ByteArray} {f : Nat} (h : A.look nm = some f) : (nm, f) ∈ A.names := by
 unfold Ab.look Ab.lookIn at h
 cases hx : A.names.find? (fun x => decide (x.1 = nm)) with
 | none => rw [hx] at h; cases h
 | some x =>
  rw [hx] at h
  injection h with h
  have h1 := List.mem_of_find?_eq_some hx
  have h2 : x.1 = nm := by simpa using List.find?_some hx
  rw [← h2, ← h]
  exact h1
theorem HA.own1 {A : Ab} (h : HA A) {a b : ByteArray} {f : Nat} (ha : A.look a = some f) (hb : A.look b = some f) : a = b := by
 have h1 := look_mem ha
 have h2 := look_mem hb
 have hn := h.own
 have key : ∀ l : List (ByteArray × Nat), (l.map (·.2)).Nodup → (a, f) ∈ l → (b, f) ∈ l → a = b := by
  intro l
  induction l with
  | nil => intro _ h; cases h
  | cons y l ih =>
   intro hn h1 h2
   rw [List.map_cons, List.nodup_cons] at hn
   rcases List.mem_cons.1 h1 with e1 | h1
   ·rcases List.mem_cons.1 h2 with e2 | h2
    ·rw [← e2] at e1; exact congrArg Prod.fst e1
    ·exact absurd (List.mem_map.2 ⟨_, h2, rfl⟩) (by rw [← e1] at hn; exact hn.1)
   ·rcases List.mem_cons.1 h2 with e2 | h2
    ·exact absurd (List.mem_map.2 ⟨_, h1, rfl⟩) (by rw [← e2] at hn; exact hn.1)
    ·exact ih hn.2 h1 h2
 exact key A.names hn h1 h2
theorem look_app (l : List (ByteArray × Nat)) (k nm : ByteArray) (f : Nat) (hk : Ab.lookIn l k = none) : Ab.lookIn (l ++ [(k, f)]) nm = if nm = k then some f else Ab.lookIn l nm := by
 unfold Ab.lookIn at hk ⊢
 rw [List.find?_append]
 by_cases h : nm = k
 ·subst h
  rw [if_pos rfl]
  cases hx : l.find? (fun x => decide (x.1 = nm)) with
  | none => simp
  | some x => rw [hx] at hk; cases hk
 ·rw [if_neg h]
  cases hx : l.find? (fun x => decide (x.1 = nm)) with
  | none => simp; exact fun e => h e.symm
  | some x => simp
theorem now_new {A : Ab} {f g : Nat} (names : List (ByteArray × Nat)) (states : List (List (ByteArray × Nat))) : ({ A with names := names, states := states, fs := (f, [], []) :: A.fs } : Ab).now g = if f = g then [] else A.now g := by
 unfold Ab.now Ab.file
 rw [List.find?_cons]
 by_cases h : f = g <;> simp [h]
theorem HA.create {A : Ab} (h : HA A) {nm : ByteArray} {f : Nat} (hv : vw A nm = none) (hl : A.names.length < 200) (hf : f ∉ A.fs.map (·.1)) {e : Nat} {B : Ab} (hB : (e, B) = A.create true nm f) :
  e = 0 ∧ HA B ∧ (∀ n, vw B n = if n = nm then some [] else vw A n) ∧ B.names.length = A.names.length + 1 ∧ B.room = A.room := by
 have hlk : A.look nm = none := by
  unfold vw at hv
  cases hx : A.look nm with
  | none => rfl
  | some x => rw [hx] at hv; cases hv
 have hc : A.create true nm f = (0, { A.chg (A.names ++ [(nm, f)]) with fs := (f, [], []) :: A.fs }) := by
  unfold Ab.create
  rw [h.meet, if_pos rfl]
  simp only
  rw [hlk, if_neg (by simp), if_neg (by omega)]
 rw [hc] at hB
 injection hB with h1 h2
 subst h1 h2
 have hown : ∀ n g, A.look n = some g → f ≠ g := fun n g hg e => hf (e ▸ h.known _ (look_mem hg))
 refine ⟨rfl, ⟨h.plan, h.on, ?_, ?_, ?_, ?_⟩, ?_, ?_, rfl⟩
 ·show ((A.names ++ [(nm, f)]).map (·.1)).Nodup
  rw [List.map_append, List.nodup_append]
  refine ⟨h.keys, by simp, fun a ha b hb => ?_⟩
  simp only [List.map_cons, List.map_nil, List.mem_singleton] at hb
  subst hb
  rintro rfl
  obtain ⟨x, hx, hxe⟩ := List.mem_map.1 ha
  have := look_of_mem h.keys hx
  rw [hxe, hlk] at this
  cases this
 ·show ((A.names ++ [(nm, f)]).map (·.2)).Nodup
  rw [List.map_append, List.nodup_append]
  refine ⟨h.own, by simp, fun a ha b hb => ?_⟩
  simp only [List.map_cons, List.map_nil, List.mem_singleton] at hb
  subst hb
  rintro rfl
  obtain ⟨x, hx, rfl⟩ := List.mem_map.1 ha
  exact hf (h.known x hx)
 ·exact List.nodup_cons.2 ⟨hf, h.ids⟩
 ·intro x hx
  rcases List.mem_append.1 hx with hx | hx
  ·exact List.mem_cons_of_mem _ (h.known x hx)
  ·simp only [List.mem_singleton] at hx
   subst hx
   exact List.mem_cons_self ..
 ·intro n
  unfold vw
  have e1 : ({ A.chg (A.names ++ [(nm, f)]) with fs := (f, [], []) :: A.fs } : Ab).look n = if n = nm then some f else A.look n := look_app A.names nm n f hlk
  rw [e1]
  by_cases hn : n = nm
  ·rw [if_pos hn, if_pos hn]
   show some _ = _
   exact congrArg some ((now_new _ _).trans (if_pos rfl))
  ·rw [if_neg hn, if_neg hn]
   cases hg : A.look n with
   | none => rfl
   | some g => exact congrArg some ((now_new _ _).trans (if_neg (hown n g hg)))
 ·show (A.names ++ [(nm, f)]).length = _
  simp
theorem now_upd1 (A : Ab) (f g : Nat) (n : List UInt8) (w : List (Nat × Nat × List UInt8)) (hg : g ∈ A.fs.map (·.1)) : ({ A with fs := Ab.upd A.fs f n, writes := w } : Ab).now g = if g = f then n else A.now g := by
 unfold Ab.now Ab.file Ab.upd
 simp only [List.find?_map]
 have : ((fun x : Nat × List UInt8 × List UInt8 => decide (x.1 = g)) ∘ fun x => if x.1 = f then (x.1, n, x.2.2) else x) = fun x => decide (x.1 = g) := by
  funext x
  simp only [Function.comp]
  split <;> rfl
 rw [this]
 cases hx : A.fs.find? (fun x => decide (x.1 = g)) with
 | none =>
  obtain ⟨y, hy, hyg⟩ := List.mem_map.1 hg
  have := List.find?_eq_none.1 hx y hy
  simp [hyg] at this
 | some x =>
  have hxg : x.1 = g := by simpa using List.find?_some hx
  simp only [Option.map_some, Option.getD_some]
  by_cases hgf : g = f
  ·rw [if_pos (hxg.trans hgf), if_pos hgf]
  ·rw [if_neg (fun e => hgf (hxg ▸ e)), if_neg hgf]
theorem HA.write {A : Ab} (h : HA A) {nm : ByteArray} {c : List UInt8} (hv : vw A nm = some c) (at_ : Nat) (b : List UInt8) (hr : A.used + (at_ + b.length) ≤ A.room) {e : Nat} {B : Ab} (hB : (e, B) = A.write true nm at_ b) :
  e = 0 ∧ HA B ∧ (∀ n, vw B n = if n = nm then some (wroteL c at_ b) else vw A n) ∧ B.names = A.names ∧ B.room = A.room := by
 obtain ⟨f, hf, rfl⟩ : ∃ f, A.look nm = some f ∧ A.now f = c := by
  unfold vw at hv
  cases hx : A.look nm with
  | none => rw [hx] at hv; cases hv
  | some f => rw [hx] at hv; injection hv with hv; exact ⟨f, rfl, hv⟩
 have hc : A.write true nm at_ b = (0, { A with fs := Ab.upd A.fs f (wroteL (A.now f) at_ b), writes := A.writes ++ [(f, at_, b)] }) := by
  unfold Ab.write
  rw [h.find, hf]
  dsimp only
  rw [if_pos rfl, if_neg (by omega)]
 rw [hc] at hB
 injection hB with h1 h2
 subst h1 h2
 have hnow : ∀ g, g ∈ A.fs.map (·.1) → ({ A with fs := Ab.upd A.fs f (wroteL (A.now f) at_ b), writes := A.writes ++ [(f, at_, b)] } : Ab).now g = if g = f then wroteL (A.now f) at_ b else A.now g := fun g hg => now_upd1 A f g _ _ hg
 refine ⟨rfl, ⟨h.plan, h.on, h.keys, h.own, ?_, ?_⟩, ?_, rfl, rfl⟩
 ·show ((Ab.upd A.fs f _).map (·.1)).Nodup
  rw [upd_ids]
  exact h.ids
 ·intro x hx
  show x.2 ∈ (Ab.upd A.fs f _).map (·.1)
  rw [upd_ids]
  exact h.known x hx
 ·intro n
  unfold vw
  show (A.look n).map _ = _
  by_cases hn : n = nm
  ·subst hn
   rw [if_pos rfl, hf]
   exact congrArg some ((hnow f (h.known _ (look_mem hf))).trans (if_pos rfl))
  ·rw [if_neg hn]
   cases hg : A.look n with
   | none => rfl
   | some g => exact congrArg some ((hnow g (h.known _ (look_mem hg))).trans (if_neg (fun e => hn (h.own1 (e ▸ hg) hf))))
theorem updS_ids1 (fs : List (Nat × List UInt8 × List UInt8)) (f : Nat) : (Ab.updS fs f).map (·.1) = fs.map (·.1) := by
 unfold Ab.updS
 rw [List.map_map]
 refine List.map_congr_left fun x _ => ?_
 simp only [Function.comp]
 split <;> rfl
theorem now_updS1 (A : Ab) (f g : Nat) (w : List (Nat × Nat × List UInt8)) : ({ A with fs := Ab.updS A.fs f, writes := w } : Ab).now g = A.now g := by
 unfold Ab.now Ab.file Ab.updS
 simp only [List.find?_map]
 have : ((fun x : Nat × List UInt8 × List UInt8 => decide (x.1 = g)) ∘ fun x => if x.1 = f then (x.1, x.2.1, x.2.1) else x) = fun x => decide (x.1 = g) := by
  funext x
  simp only [Function.comp]
  split <;> rfl
 rw [this]
 cases A.fs.find? (fun x => decide (x.1 = g)) with
 | none => rfl
 | some x =>
  simp only [Option.map_some, Option.getD_some]
  split <;> rfl
theorem HA.sync {A : Ab} (h : HA A) {nm : ByteArray} {c : List UInt8} (hv : vw A nm = some c) {e : Nat} {B : Ab} (hB : (e, B) = A.sync true nm) :
  e = 0 ∧ HA B ∧ (∀ n, vw B n = vw A n) ∧ B.names = A.names ∧ B.room = A.room := by
 obtain ⟨f, hf⟩ : ∃ f, A.look nm = some f := by
  unfold vw at hv
  cases hx : A.look nm with
  | none => rw [hx] at hv; cases hv
  | some f => exact ⟨f, rfl⟩
 have hc : A.sync true nm = (0, { A with fs := Ab.updS A.fs f, writes := A.writes.filter fun x => !decide (x.1 = f) }) := by
  unfold Ab.sync
  rw [h.find, hf]
  dsimp only
  rw [if_pos rfl]
 rw [hc] at hB
 injection hB with h1 h2
 subst h1 h2
 refine ⟨rfl, ⟨h.plan, h.on, h.keys, h.own, ?_, ?_⟩, ?_, rfl, rfl⟩
 ·show ((Ab.updS A.fs f).map (·.1)).Nodup
  rw [updS_ids1]
  exact h.ids
 ·intro x hx
  show x.2 ∈ (Ab.updS A.fs f).map (·.1)
  rw [updS_ids1]
  exact h.known x hx
 ·intro n
  unfold vw
  show (A.look n).map _ = _
  cases hg : A.look n with
  | none => rfl
  | some g => exact congrArg some (now_updS1 A f g _)
theorem HA.syncNames {A : Ab} (h : HA A) {e : Nat} {B : Ab} (hB : (e, B) = A.syncNames) : e = 0 ∧ HA B ∧ (∀ n, vw B n = vw A n) ∧ B.names = A.names ∧ B.room = A.room := by
 have hc : A.syncNames = (0, { A with states := [A.names] }) := by
  unfold Ab.syncNames
  rw [h.meet, if_pos rfl]
 rw [hc] at hB
 injection hB with h1 h2
 subst h1 h2
 exact ⟨rfl, ⟨h.plan, h.on, h.keys, h.own, h.ids, h.known⟩, fun n => rfl, rfl, rfl⟩
theorem look_del (l : List (ByteArray × Nat)) (k n : ByteArray) : Ab.lookIn (Ab.delN l k) n = if n = k then none else Ab.lookIn l n := by
 unfold Ab.lookIn Ab.delN
 induction l with
 | nil => simp
 | cons x l ih =>
  rw [List.filter_cons]
  by_cases hx : x.1 = k
  ·simp only [hx, decide_true, Bool.not_true, Bool.false_eq_true, if_false, List.find?_cons]
   rw [ih]
   by_cases hn : n = k
   ·simp [hn]
   ·have : ¬ k = n := fun e => hn e.symm
    simp [hn, this]
  ·simp only [hx, decide_false, Bool.not_false, if_true, List.find?_cons]
   by_cases hxn : x.1 = n
   ·have : ¬ n = k := fun e => hx (hxn.trans e)
    simp [hxn, this]
   ·simp only [hxn, decide_false]
    exact ih
theorem HA.remove {A : Ab} (h : HA A) {nm : ByteArray} {c : List UInt8} (hv : vw A nm = some c) {e : Nat} {B : Ab} (hB : (e, B) = A.remove true nm) :
  e = 0 ∧ HA B ∧ (∀ n, vw B n = if n = nm then none else vw A n) ∧ B.names = Ab.delN A.names nm ∧ B.room = A.room := by
 obtain ⟨f, hf⟩ : ∃ f, A.look nm = some f := by
  unfold vw at hv
  cases hx : A.look nm with
  | none => rw [hx] at hv; cases hv
  | some f => exact ⟨f, rfl⟩
 have hc : A.remove true nm = (0, A.chg (Ab.delN A.names nm)) := by
  unfold Ab.remove
  rw [h.find, hf]
  rfl
 rw [hc] at hB
 injection hB with h1 h2
 subst h1 h2
 refine ⟨rfl, ⟨h.plan, h.on, ?_, ?_, h.ids, ?_⟩, ?_, rfl, rfl⟩
 ·exact (List.filter_sublist.map _).nodup h.keys
 ·exact (List.filter_sublist.map _).nodup h.own
 ·intro x hx
  exact h.known x (List.mem_filter.1 hx).1
 ·intro n
  unfold vw
  have e1 : (A.chg (Ab.delN A.names nm)).look n = if n = nm then none else A.look n := look_del A.names nm n
  rw [e1]
  by_cases hn : n = nm
  ·rw [if_pos hn, if_pos hn]; rfl
  ·rw [if_neg hn, if_neg hn]; rfl
theorem HA.rename {A : Ab} (h : HA A) {o n : ByteArray} {c : List UInt8} (hne : o ≠ n) (hv : vw A o = some c) (hvn : vw A n = none) {e : Nat} {B : Ab} (hB : (e, B) = A.rename true o n) :
  e = 0 ∧ HA B ∧ (∀ m, vw B m = if m = n then some c else if m = o then none else vw A m) ∧ B.room = A.room ∧ ∃ f, A.look o = some f ∧ B.names = Ab.delN A.names o ++ [(n, f)] := by
 obtain ⟨f, hf, rfl⟩ : ∃ f, A.look o = some f ∧ A.now f = c := by
  unfold vw at hv
  cases hx : A.look o with
  | none => rw [hx] at hv; cases hv
  | some f => rw [hx] at hv; injection hv with hv; exact ⟨f, rfl, hv⟩
 have hln : A.look n = none := by
  unfold vw at hvn
  cases hx : A.look n with
  | none => rfl
  | some x => rw [hx] at hvn; cases hvn
 have hld : Ab.lookIn (Ab.delN A.names o) n = none := by
  rw [look_del]
  split
  ·rfl
  ·exact hln
 have hset : Ab.setN (Ab.delN A.names o) n f = Ab.delN A.names o ++ [(n, f)] := by
  unfold Ab.setN
  rw [hld]; simp
 have hc : A.rename true o n = (0, A.chg (Ab.delN A.names o ++ [(n, f)])) := by
  unfold Ab.rename
  rw [h.find, hf]
  show (0, A.chg (Ab.setN (Ab.delN A.names o) n f)) = _
  rw [hset]
 rw [hc] at hB
 injection hB with h1 h2
 subst h1 h2
 have hsub : ∀ x ∈ Ab.delN A.names o, x ∈ A.names ∧ x.1 ≠ o := fun x hx => by
  obtain ⟨h1, h2⟩ := List.mem_filter.1 hx
  exact ⟨h1, by simpa using h2⟩
 refine ⟨rfl, ⟨h.plan, h.on, ?_, ?_, h.ids, ?_⟩, ?_, rfl, f, hf, rfl⟩
 ·show ((Ab.delN A.names o ++ [(n, f)]).map (·.1)).Nodup
  rw [List.map_append, List.nodup_append]
  refine ⟨(List.filter_sublist.map _).nodup h.keys, by simp, fun a ha b hb => ?_⟩
  simp only [List.map_cons, List.map_nil, List.mem_singleton] at hb
  subst hb
  rintro rfl
  obtain ⟨x, hx, rfl⟩ := List.mem_map.1 ha
  have := look_of_mem h.keys (hsub x hx).1
  rw [hln] at this
  cases this
 ·show ((Ab.delN A.names o ++ [(n, f)]).map (·.2)).Nodup
  rw [List.map_append, List.nodup_append]
  refine ⟨(List.filter_sublist.map _).nodup h.own, by simp, fun a ha b hb => ?_⟩
  simp only [List.map_cons, List.map_nil, List.mem_singleton] at hb
  subst hb
  rintro rfl
  obtain ⟨x, hx, hxe⟩ := List.mem_map.1 ha
  have h3 := look_of_mem h.keys (hsub x hx).1
  rw [hxe] at h3
  exact (hsub x hx).2 (h.own1 h3 hf)
 ·intro x hx
  rcases List.mem_append.1 hx with hx | hx
  ·exact h.known x (hsub x hx).1
  ·simp only [List.mem_singleton] at hx
   subst hx
   exact h.known (o, f) (look_mem hf)
 ·intro m
  unfold vw
  have e1 : (A.chg (Ab.delN A.names o ++ [(n, f)])).look m = if m = n then some f else if m = o then none else A.look m := by
   refine (look_app (Ab.delN A.names o) n m f hld).trans ?_
   rw [look_del]
   rfl
  rw [e1]
  by_cases hm : m = n
  ·rw [if_pos hm, if_pos hm]; rfl
  ·rw [if_neg hm, if_neg hm]
   by_cases hmo : m = o
   ·rw [if_pos hmo, if_pos hmo]; rfl
   ·rw [if_neg hmo, if_neg hmo]; rfl
end Go.Proofs.YtpecmnaikjbanaaGreatDoor
/- blobs, plain: what a store does on a disk to which nothing happens. -/
namespace Go.Proofs.YtpecmnaikjbanaaGreatDoor
open Go Go.SL
theorem textL_ok (d : Dg) : (textL d).all okc = true := by
 rw [List.all_eq_true]
 intro x hx
 unfold textL at hx
 obtain ⟨i, _, rfl⟩ := List.mem_map.1 hx
 have h := sgnAt_lt d i
 unfold hexv at h
 unfold okc
 rw [decide_eq_true_eq]
 split at h
 ·rename_i h1; right; left; exact h1
 ·split at h
  ·rename_i h1; left; omega
  ·cases h
theorem isName_file (k : List UInt8) (d : Dg) (hk : k.length ≤ 10) (ho : k.all okc = true) : isName (fileN k d) = true := by
 unfold isName fileN
 rw [strOf_list]
 have hs : (strOf (k ++ textL d)).size = k.length + 64 := by
  show (k ++ textL d).toArray.size = _
  rw [List.size_toArray, List.length_append, textL_len]
 rw [hs, List.all_append, ho, textL_ok]
 simp
 omega
theorem isName_fS (x : Bl) : isName (fS x) = true := isName_file kS x.d (by decide) (by decide)
theorem isName_fB (x : Bl) : isName (fB x) = true := isName_file kB x.d (by decide) (by decide)
theorem fS_ne_fB (x y : Bl) : fS x ≠ fB y := fun h => absurd (fileN_kind (by rfl) h) (by decide)
theorem mayW_fS (x : Bl) (at_ : Nat) (b : List UInt8) (h : at_ + b.length ≤ 1048576) : mayW (fS x) at_ b = true := by
 unfold mayW
 rw [isName_fS]
 simp
 omega
theorem hasF_vw (A : Ab) (nm : ByteArray) : hasF A nm = (vw A nm).isSome := by
 unfold hasF vw
 cases A.look nm <;> rfl
theorem bytesF_vw {A : Ab} (h : HA A) (nm : ByteArray) : bytesF A nm = vw A nm := by
 unfold bytesF vw
 cases A.look nm with
 | none => rfl
 | some f => simp [h.on]
theorem Begin_ok {q : Int} {x : Bl} {s t : Sto} {e : Nat} (h : HA s.A) (hb : s.brk = false) (hr : rightB x = true) (hno : begL s.beg x.d = none) (hB : vw s.A (fB x) = none) (hq : usedS s + x.size ≤ q) (hS : vw s.A (fS x) = none) (hn : s.A.names.length < 200) (hR : BeginR q x s e t) :
  e = 0 ∧ HA t.A ∧ t.brk = false ∧ t.beg = s.beg ++ [(x.d, x)] ∧ (∀ n, vw t.A n = if n = fS x then some [] else vw s.A n) ∧ t.A.names.length = s.A.names.length + 1 ∧ t.A.room = s.A.room := by
 obtain ⟨A, beg, brk⟩ := s
 simp only at h hb hno hB hS hn
 subst hb
 unfold BeginR at hR
 rw [if_neg (by simp), if_neg (by rw [hr]; simp), if_neg (by rw [hno, hasF_vw, hB]; simp), if_neg (by omega), if_neg (by rw [hasF_vw, hS]; simp)] at hR
 obtain ⟨e1, s1, ⟨B, hruns, rfl⟩, hc⟩ := hR
 obtain ⟨e2, A2, ⟨f, hf, hcr⟩, hc2⟩ := hruns
 rw [isName_fS] at hcr
 obtain ⟨rfl, h2, hv2, hl2, hr2⟩ := h.create hS hn hf hcr
 rcases hc2 with ⟨hne, _⟩ | ⟨_, e3, A3, hsn, hc3⟩
 ·exact absurd rfl hne
 obtain ⟨rfl, h3, hv3, hl3, hr3⟩ := h2.syncNames hsn
 rcases hc3 with ⟨hne, _⟩ | ⟨_, rfl, rfl⟩
 ·exact absurd rfl hne
 rcases hc with ⟨hne, _⟩ | ⟨_, rfl, rfl⟩
 ·exact absurd rfl hne
 exact ⟨rfl, h3, rfl, rfl, fun n => (hv3 n).trans (hv2 n), by rw [hl3]; exact hl2, hr3.trans hr2⟩
theorem Put_ok {x : Bl} {i at_ n : Int} {b c : List UInt8} {s t : Sto} {e : Nat} (h : HA s.A) (hb : s.brk = false) (ho : begL s.beg x.d = some x) (hsp : spanB x i = some (at_, n)) (hl : (b.length : Int) = n) (hv : vw s.A (fS x) = some c) (hat : 0 ≤ at_ ∧ at_ + b.length ≤ 1048576) (hroom : s.A.used + (at_.toNat + b.length) ≤ s.A.room) (hR : PutS x i b s e t) :
  e = 0 ∧ HA t.A ∧ t.brk = false ∧ t.beg = s.beg ∧ (∀ n, vw t.A n = if n = fS x then some (wroteL c at_.toNat b) else vw s.A n) ∧ t.A.names = s.A.names ∧ t.A.room = s.A.room := by
 obtain ⟨A, beg, brk⟩ := s
 simp only at h hb ho hv hroom
 subst hb
 unfold PutS at hR
 have hm : mayS ⟨A, beg, false⟩ x = 0 := by unfold mayS openS; simp [ho]
 rw [hm, if_neg (by simp), hsp] at hR
 dsimp only at hR
 rw [if_neg (by omega)] at hR
 obtain ⟨B, ⟨e1, A1, hw, hc⟩, rfl⟩ := hR
 unfold stWrite at hw
 rw [mayW_fS x at_.toNat b (by omega)] at hw
 obtain ⟨rfl, h1, hv1, hl1, hr1⟩ := h.write hv at_.toNat b hroom hw
 rcases hc with ⟨hne, _⟩ | ⟨_, rfl, rfl⟩
 ·exact absurd rfl hne
 exact ⟨rfl, h1, rfl, rfl, hv1, hl1, hr1⟩
theorem Install_ok {x : Bl} {c : List UInt8} {s t : Sto} {e : Nat} (h : HA s.A) (hb : s.brk = false) (ho : begL s.beg x.d = some x) (hv : vw s.A (fS x) = some c) (hno : vw s.A (fB x) = none) (hw : wholeB x c = true) (hR : InstallS x s e t) :
  e = 0 ∧ HA t.A ∧ t.brk = false ∧ t.beg = delB s.beg x.d ∧ (∀ n, vw t.A n = if n = fB x then some c else if n = fS x then none else vw s.A n) ∧ t.A.room = s.A.room ∧ ∃ f, t.A.names = Ab.delN s.A.names (fS x) ++ [(fB x, f)] := by
 obtain ⟨A, beg, brk⟩ := s
 simp only at h hb ho hv hno
 subst hb
 have hm : mayS ⟨A, beg, false⟩ x = 0 := by unfold mayS openS; simp [ho]
 unfold InstallS at hR
 rw [hm, if_neg (by simp), bytesF_vw h, hv, if_neg (by show ¬ wholeB x c = false; rw [hw]; simp)] at hR
 obtain ⟨s1, ⟨B, ⟨e1, A1, h1, hc1⟩, rfl⟩, ht⟩ := hR
 unfold stSync at h1
 rw [isName_fS] at h1
 obtain ⟨rfl, g1, v1, l1, r1⟩ := h.sync hv h1
 rcases hc1 with ⟨hne, _⟩ | ⟨_, e2, A2, h2, hc2⟩
 ·exact absurd rfl hne
 unfold stRename at h2
 rw [show [fS x, fB x].all isName = true from by simp [isName_fS, isName_fB]] at h2
 obtain ⟨rfl, g2, v2, r2, f, _, l2⟩ := g1.rename (fS_ne_fB x x) ((v1 _).trans hv) ((v1 _).trans hno) h2
 rcases hc2 with ⟨hne, _⟩ | ⟨_, e3, A3, h3, hc3⟩
 ·exact absurd rfl hne
 obtain ⟨rfl, g3, v3, l3, r3⟩ := g2.syncNames h3
 rcases hc3 with ⟨hne, _⟩ | ⟨_, rfl, rfl⟩
 ·exact absurd rfl hne
 rw [if_neg (by simp)] at ht
 subst ht
 refine ⟨rfl, g3, rfl, rfl, fun n => ?_, r3.trans (r2.trans r1), f, by rw [l3, l2, l1]⟩
 rw [v3, v2]
 split
 ·rfl
 ·split
  ·rfl
  ·exact v1 n
end Go.Proofs.YtpecmnaikjbanaaGreatDoor
