/- files, part a: small functions of package files, without the disk's own predicate. -/
import Derived.Test.YtokknepnmfklnaaEngH
import Derived.Test.YtokknepnmfklnaaTab
set_option linter.unusedVariables false
set_option linter.unusedSimpArgs false
namespace Go.Proofs.Ytokknepnmfklnaa
open Go Go.SL
attribute [local irreducible] J K Ctr Ends pts slc mapR mapI sbRow

/-- New. -/
theorem files_New_bad (room : Int) (h : room < 1 ∨ 1073741824 < room) : Ctr Try.prog 11 [.int .i64 room] [] (fun v H => v = .tuple #[.pointer none, .int .i64 1] ∧ H = []) := by
  refine Ctr.enter Try.func11 (by kernel_rfl) rfl Try.ntmps11 rfl rfl ?_
  intro G F R hR
  (refine go ?_)
  refine J_gsP rfl rfl rfl rfl ?_ ?_
  · intro h1
    (refine go ?_)
    refine K_return hR Try.func11 rfl _ rfl ⟨rfl, rfl⟩ (Ent.fin [] 0 rfl rfl)
  · intro h1
    (refine go ?_)
    refine K_condP rfl rfl ?_ ?_
    · intro h2
      (refine go ?_)
      refine K_return hR Try.func11 rfl _ rfl ⟨rfl, rfl⟩ (Ent.fin [] 0 rfl rfl)
    · intro h2; exfalso; omega

/-- slices.IndexFunc at bytes. -/
theorem IndexFunc_bytes (A X : HP) (v : Value) (bs : List UInt8) (hv : Vw A v bs.length (bV bs)) (hlen : bs.length ≤ 9223372036854775807) (g : FuncId) (cap : List Value) (p : UInt8 → Bool)
    (hf : ∀ x ∈ bs, Ctr Try.prog g (u8 x :: cap) [X] (fun v H => v = .bool (p x) ∧ H = [X])) :
    Ctr Try.prog 64 [v, .func (.func g) #[] cap.toArray] [A, X] (fun r H => r = .int .i64 (idxI p bs) ∧ H = [A, X]) := by
  obtain ⟨a, c0, rfl⟩ := hv.shape
  refine Ctr.enter Try.func64 (by kernel_rfl) rfl Try.ntmps64 rfl rfl ?_
  intro G F R hR
  (refine go ?_)
  refine K_loop (fun i : Nat => i ≤ bs.length ∧ ∀ y ∈ bs.take i, p y = false) (fun i => bs.length - i) (fun i => [(0, .slice a bs.length c0), (1, .func (.func g) #[] cap.toArray), (7, .int .i64 bs.length), (8, .int .i64 i)]) (fun _ => [A, X] ++ F) 0 ⟨by simp, by simp⟩ rfl (by repeat (first | exact keep_nil | refine keep_cons rfl ?_)) (Ent.refl _) ?_
  rintro i ⟨hi, hb⟩ ih
  (refine go ?_)
  refine K_condP rfl rfl ?_ ?_
  · intro hlt
    (refine go ?_)
    have hi' : i < bs.length := by omega
    obtain ⟨b, o, cap', hsl⟩ := hv.some (by rw [← List.length_pos_iff, bV_length]; omega)
    simp only [Value.slice.injEq] at hsl
    obtain ⟨rfl, _, rfl⟩ := hsl
    refine J_at1 (U := tab) i rfl rfl rfl rfl rfl rfl rfl rfl hi' ?_
    have hx : bs[i]? = some bs[i] := by simp [hi']
    refine J_loadV (U := tab) 0 rfl rfl rfl (hv.cell (bV_get hx)) rfl rfl ?_
    refine J_call [1] rfl rfl rfl rfl (hf bs[i] (List.getElem_mem hi')) rfl (fun _ _ _ _ _ => trivial) ?_
    rintro _ _ ⟨rfl, rfl⟩
    (refine go ?_)
    refine K_condA rfl rfl ?_ ?_
    · intro hp
      (refine go ?_)
      refine K_return hR Try.func64 rfl _ rfl ⟨by rw [idxI_some hx hp hb]; rfl, rfl⟩ (Ent.fin [1, 0] 0 rfl rfl)
    · intro hp
      (refine go ?_)
      refine K_again ih (i + 1) rfl ⟨by omega, allTake hb hx hp⟩ (by omega) (by repeat (first | exact keep_nil | refine keep_cons rfl ?_)) (Ent.pick [1, 0] rfl)
  · intro hge
    (refine go ?_)
    have : i = bs.length := by omega
    subst this
    refine K_return hR Try.func64 rfl _ rfl ⟨by rw [idxI_none (fun x hx => hb x (by simpa using hx))]; rfl, rfl⟩ (Ent.fin [0, 1] 0 rfl rfl)
/-- A sign that a name may have. -/
def okc (x : UInt8) : Bool := decide (97 ≤ x.toNat ∧ x.toNat ≤ 122 ∨ 48 ≤ x.toNat ∧ x.toNat ≤ 57 ∨ x.toNat = 45 ∨ x.toNat = 46)
theorem okc_of {x : UInt8} {p : Prop} [Decidable p] (h : p ↔ ¬ (97 ≤ x.toNat ∧ x.toNat ≤ 122 ∨ 48 ≤ x.toNat ∧ x.toNat ≤ 57 ∨ x.toNat = 45 ∨ x.toNat = 46)) : decide p = !okc x := by
  unfold okc; rw [← decide_not]; exact decide_eq_decide.2 h
theorem right_odd (X : HP) (x : UInt8) : Ctr Try.prog 50 [u8 x] [X] (fun v H => v = .bool (!okc x) ∧ H = [X]) := by
  refine Ctr.enter Try.func50 (by kernel_rfl) rfl Try.ntmps50 rfl rfl ?_
  intro G F R hR
  have hx := u8_lt x
  repeat' (first | (with_reducible intro _hh) | refine go1 ?_ | refine J_fork ?_ ?_ | refine J_gsP rfl rfl rfl rfl ?_ ?_ | refine K_condP rfl rfl ?_ ?_)
  all_goals refine K_return hR Try.func50 rfl _ rfl ⟨congrArg Value.bool (by rw [Bool.eq_iff_iff]; simp [okc]; omega), rfl⟩ (Ent.fin [0] 0 rfl rfl)

theorem ContainsFunc_bytes (A X : HP) (v : Value) (bs : List UInt8) (hv : Vw A v bs.length (bV bs)) (hlen : bs.length ≤ 9223372036854775807) (g : FuncId) (cap : List Value) (p : UInt8 → Bool)
    (hf : ∀ x ∈ bs, Ctr Try.prog g (u8 x :: cap) [X] (fun v H => v = .bool (p x) ∧ H = [X])) :
    Ctr Try.prog 51 [v, .func (.func g) #[] cap.toArray] [A, X] (fun r H => r = .bool (bs.any p) ∧ H = [A, X]) := by
  refine Ctr.enter Try.func51 (by kernel_rfl) rfl Try.ntmps51 rfl rfl ?_
  intro G F R hR
  (refine go ?_)
  refine J_call [0, 1] rfl rfl rfl rfl (IndexFunc_bytes A X v bs hv hlen g cap p hf) rfl (fun _ _ _ _ _ => trivial) ?_
  rintro _ _ ⟨rfl, rfl⟩
  (refine go ?_)
  have hb : decide (0 ≤ idxI p bs) = bs.any p := by
    have := @idxI_neg _ p bs
    cases h : bs.any p with
    | false => rw [h] at this; exact decide_eq_false (by have := this.2 rfl; omega)
    | true =>
      rw [h] at this
      have h2 : ¬ idxI p bs < 0 := fun h3 => by cases this.1 h3
      exact decide_eq_true (by omega)
  refine K_return hR Try.func51 rfl _ rfl ⟨congrArg Value.bool hb, rfl⟩ (Ent.fin [0, 1] 0 rfl rfl)
def isName (s : ByteArray) : Bool := decide (1 ≤ s.size ∧ s.size ≤ 80) && s.data.toList.all okc
theorem isName_of {s : ByteArray} (h1 : 1 ≤ s.size) (h2 : s.size ≤ 80) : isName s = !(s.data.toList.any fun x => !okc x) := by
  simp [isName, h1, h2, List.all_eq_not_any_not]
theorem isName_short {s : ByteArray} (h1 : s.size < 1) : isName s = false := by simp [isName]; omega
theorem isName_long {s : ByteArray} (h1 : 80 < s.size) : isName s = false := by simp [isName]; omega

theorem right_any (A : HP) (v : Value) (l : List ByteArray) (hv : Vw A v l.length (l.map Value.string)) (hlen : l.length ≤ 1000000) :
    Ctr Try.prog 28 [v] [A] (fun r H => r = .bool (l.all isName) ∧ H = [A]) := by
  obtain ⟨a, c0, rfl⟩ := hv.shape
  refine Ctr.enter Try.func28 (by kernel_rfl) rfl Try.ntmps28 rfl rfl ?_
  intro G F R hR
  refine K_ent (Ent.addEmp _) ?_
  (refine go ?_)
  refine K_loop (fun i : Nat => i ≤ l.length ∧ ∀ y ∈ l.take i, isName y = true) (fun i => l.length - i) (fun i => [(3, .func (.func 50) #[] #[]), (6, .slice a l.length c0), (7, .int .i64 l.length), (8, .int .i64 i)]) (fun _ => emp :: ([A] ++ F)) 0 ⟨by simp, by simp⟩ rfl (by repeat (first | exact keep_nil | refine keep_cons rfl ?_)) (Ent.refl _) ?_
  rintro i ⟨hi, hb⟩ ih
  (refine go ?_)
  refine K_condP rfl rfl ?_ ?_
  · intro hlt
    (refine go ?_)
    have hi' : i < l.length := by omega
    obtain ⟨b, o, cap', hsl⟩ := hv.some (by rw [← List.length_pos_iff, List.length_map]; omega)
    simp only [Value.slice.injEq] at hsl
    obtain ⟨rfl, _, rfl⟩ := hsl
    refine J_at1 (U := tab) i rfl rfl rfl rfl rfl rfl rfl rfl hi' ?_
    obtain ⟨s, hs⟩ : ∃ s, l[i]? = some s := ⟨l[i], by simp [hi']⟩
    refine J_loadV (U := tab) 1 rfl rfl rfl (hv.cell (c := .string s) (by simp [hs])) rfl rfl ?_
    have hmem : s ∈ l := List.mem_of_getElem? hs
    repeat' (first | (with_reducible intro _hh) | refine go1 ?_ | refine J_fork ?_ ?_ | refine J_gsP rfl rfl rfl rfl ?_ ?_ | refine K_condP rfl rfl ?_ ?_)
    · have hn : l.all isName = false := by
        rw [← Bool.not_eq_true, List.all_eq_true]; intro h
        have h1 := h s hmem; rw [isName_short (by omega)] at h1; cases h1
      refine K_return hR Try.func28 rfl _ rfl ⟨congrArg Value.bool hn.symm, rfl⟩ (Ent.fin [1] 1 rfl rfl)
    · have hn : l.all isName = false := by
        rw [← Bool.not_eq_true, List.all_eq_true]; intro h
        have h1 := h s hmem; rw [isName_long (by omega)] at h1; cases h1
      refine K_return hR Try.func28 rfl _ rfl ⟨congrArg Value.bool hn.symm, rfl⟩ (Ent.fin [1] 1 rfl rfl)
    · have hnm := isName_of (s := s) (by omega) (by omega)
      refine J_toBytes (U := tab) rfl rfl rfl rfl rfl rfl rfl rfl (fun _ _ _ _ => trivial) ?_
      intro bb cc
      (refine go ?_)
      refine J_call [0, 1] rfl rfl rfl rfl (ContainsFunc_bytes (sbRow bb s _ cc) emp _ s.data.toList (by simpa using sbRow_view bb s _ cc cc) (by simp; omega) _ [] _ (fun x _ => right_odd emp x)) rfl (fun _ _ _ _ _ => trivial) ?_
      rintro _ _ ⟨rfl, rfl⟩
      (refine go ?_)
      refine K_condA rfl rfl ?_ ?_
      · intro ht
        (refine go ?_)
        have hn : l.all isName = false := by
          rw [← Bool.not_eq_true, List.all_eq_true]; intro h
          have h1 := h s hmem; rw [hnm, ht] at h1; cases h1
        refine K_return hR Try.func28 rfl _ rfl ⟨congrArg Value.bool hn.symm, rfl⟩ (Ent.fin [2] 2 rfl rfl)
      · intro hf
        (refine go ?_)
        refine K_again ih (i + 1) rfl ⟨by omega, allTake hb hs (by rw [hnm, hf]; rfl)⟩ (by omega) (by repeat (first | exact keep_nil | refine keep_cons rfl ?_)) (Ent.to [1, 2] 1 rfl rfl rfl)
  · intro hge
    (refine go ?_)
    have : i = l.length := by omega
    subst this
    refine K_return hR Try.func28 rfl _ rfl ⟨congrArg Value.bool (by rw [eq_comm, List.all_eq_true]; intro x hx; exact hb x (by simpa using hx)), rfl⟩ (Ent.fin [1] 1 rfl rfl)

/-- slices.Clone at bytes. -/
theorem Clone_bytes (A : HP) (v : Value) (bs : List UInt8) (hv : Vw A v bs.length (bV bs)) (hlen : bs.length ≤ 1000000000) :
    Ctr Try.prog 33 [v] [A] (fun r H => H = [slc 5 1 r bs.length (bV bs), A]) := by
  obtain ⟨a, c0, rfl⟩ := hv.shape
  cases a with
  | none =>
    have hb : bs = [] := by
      obtain ⟨a, cap, h1, h2 | ⟨b, o, h2, _⟩⟩ := hv
      · simpa [bV] using h2
      · simp only [Value.slice.injEq] at h1; rw [← h1.1] at h2; cases h2
    subst hb
    refine Ctr.enter Try.func33 (by kernel_rfl) rfl Try.ntmps33 rfl rfl ?_
    intro G F R hR
    (refine go ?_)
    have he : c0 = c0 := rfl
    refine K_ent (slc_lift 5 1 none _) ?_
    refine K_return hR Try.func33 rfl _ rfl rfl (Ent.fin [0, 1] 0 rfl rfl)
  | some a =>
    refine Ctr.enter Try.func33 (by kernel_rfl) rfl Try.ntmps33 rfl rfl ?_
    intro G F R hR
    (refine go ?_)
    refine J_buildSlice1 (U := tab) rfl rfl rfl rfl rfl rfl rfl rfl rfl (fun _ _ _ => trivial) ?_
    intro b0
    (refine go ?_)
    refine J_ent (slc_row 5 1 b0 0 0 [] [] _ rfl (Nat.le_refl _) (by simp)) ?_
    refine J_append (U := tab) (mm := bs.length) (news := bV bs) 0 1 rfl rfl rfl rfl rfl rfl rfl rfl rfl rfl rfl rfl hv (by show _ = _ * 1; rw [bV_length]; omega) (bV_one bs) (by omega) (by show _ * 1 ≤ _; omega) (fun _ => rfl) (fun _ _ _ => trivial) ?_
    intro v'
    have e1 : (0 : Nat) + bs.length = bs.length := by omega
    rw [e1, List.nil_append]
    (refine go ?_)
    refine K_return hR Try.func33 rfl _ rfl rfl (Ent.fin [0, 1] 0 rfl rfl)

/-- wrote: bytes with others at a place. -/
theorem wrote_any (A : HP) (v1 v2 : Value) (old b : List UInt8) (at_ : Nat) (h1 : Vw A v1 old.length (bV old)) (h2 : Vw A v2 b.length (bV b)) (hb : old.length + at_ + b.length ≤ 1000000000) :
    Ctr Try.prog 32 [v1, .int .i64 at_, v2] [A] (fun r H => ∃ bl cap, r = .slice (some ⟨bl, 0, none⟩) (wroteL old at_ b).length cap ∧ (wroteL old at_ b).length ≤ cap ∧ H = [pts bl (cl (bV (wroteL old at_ b)) 5), A]) := by
  obtain ⟨a1, c1, rfl⟩ := h1.shape
  obtain ⟨a2, c2, rfl⟩ := h2.shape
  refine Ctr.enter Try.func32 (by kernel_rfl) rfl Try.ntmps32 rfl rfl ?_
  intro G F R hR
  (refine go ?_)
  have hN : (max old.length (at_ + b.length) : Nat) = max old.length (at_ + b.length) := rfl
  generalize hM : max old.length (at_ + b.length) = M at *
  refine J_slot 14 (.int .i64 (M : Int)) rfl (congrArg (Value.int .i64) (by omega)) ?_
  refine J_makeSlice (U := tab) (p := M) (q := M) rfl rfl rfl rfl rfl rfl rfl rfl rfl (Nat.le_refl _) (by omega) (by show 1 * M ≤ _; omega) (fun _ _ _ => trivial) ?_
  intro bl
  (refine go ?_)
  refine J_copy (U := tab) (src := bV old) (mm := old.length) (l' := bV (old ++ List.replicate (M - old.length) 0)) 0 1 rfl rfl rfl rfl rfl rfl rfl rfl h1 (by show _ = _ * 1; rw [bV_length]; omega) (bV_one old) (by show 0 + _ * 1 ≤ _; simp; omega) ?_ rfl (fun _ _ => trivial) ?_
  · show bV (old ++ List.replicate (M - old.length) 0) = List.take 0 (List.replicate M (Value.int .u8 0)) ++ List.take (min old.length M * 1) (bV old) ++ List.drop (0 + min old.length M * 1) (List.replicate M (Value.int .u8 0))
    have e : min old.length M * 1 = old.length := by omega
    rw [e, List.take_of_length_le (l := bV old) (by rw [bV_length]; omega)]
    simp [bV, u8]
  (refine go ?_)
  refine J_slice (U := tab) rfl rfl rfl rfl rfl rfl rfl (by omega) (by omega) (.inl rfl) ?_
  intro o' ho1 ho2
  have hA : at_ ≠ M → o' = at_ := fun h => by have := ho1 (by simpa using h); rw [this]; show 0 + (at_ : Int).toNat * 1 = at_; simp
  have hB : at_ = M → o' = 0 := fun h => ho2 (by simpa using h)
  clear ho1 ho2
  have hmin : (min b.length ((M : Int).toNat - (at_ : Int).toNat)) * 1 = b.length := by simp; omega
  (refine go ?_)
  refine J_copy (U := tab) (src := bV b) (mm := b.length) (l' := bV (wroteL old at_ b)) 0 1 rfl rfl rfl rfl rfl rfl rfl rfl h2 (by show _ = _ * 1; rw [bV_length]; omega) (bV_one b) ?_ ?_ rfl (fun _ _ => trivial) ?_
  · show o' + (min b.length ((M : Int).toNat - (at_ : Int).toNat)) * 1 ≤ _
    rw [hmin]; simp only [bV_length, List.length_append, List.length_replicate]
    by_cases h : at_ = M
    · have := hB h; omega
    · have := hA h; omega
  · show bV (wroteL old at_ b) = List.take o' _ ++ List.take (min b.length ((M : Int).toNat - (at_ : Int).toNat) * 1) (bV b) ++ List.drop (o' + min b.length ((M : Int).toNat - (at_ : Int).toNat) * 1) _
    rw [hmin, List.take_of_length_le (l := bV b) (by rw [bV_length]; omega)]
    have hrep : at_ + b.length - old.length = M - old.length := by omega
    unfold wroteL
    rw [hrep]
    by_cases h : at_ = M
    · have h3 := hB h
      have h4 : b = [] := List.eq_nil_of_length_eq_zero (by omega)
      subst h4; subst h3
      simp [bV, h]
    · rw [hA h]
      simp [bV]
  · have hl : (wroteL old at_ b).length = M := by unfold wroteL; simp; omega
    rw [← hl]
    (refine go ?_)
    refine K_return hR Try.func32 rfl _ rfl ⟨bl, _, rfl, Nat.le_refl _, rfl⟩ (Ent.fin [0, 1] 0 rfl rfl)
end Go.Proofs.Ytokknepnmfklnaa
