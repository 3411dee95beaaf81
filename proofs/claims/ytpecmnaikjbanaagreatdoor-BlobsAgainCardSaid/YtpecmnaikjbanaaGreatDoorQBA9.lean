/- Texts of one claim, joined: Dj, Dk, Dl, EngZ, EngVi, EngV2, Gs0, Gg1. -/
import Derived.Test.YtpecmnaikjbanaaGreatDoorQBA3
import Derived.Test.YtpecmnaikjbanaaGreatDoorQBA4
import Derived.Test.YtpecmnaikjbanaaGreatDoorQBA6
import Derived.Test.YtpecmnaikjbanaaGreatDoorQBA8
import Derived.ProofKit
import Derived.Below
import Derived.Shelf.SortG.Plain
import Derived.Shelf.SortG.SortNone
import Derived.Test.YtpecmnaikjbanaaGreatDoorChecked
/- manifest: images: whether one may be, as bytes, its name. -/
set_option linter.unusedVariables false
set_option linter.unusedSimpArgs false
namespace Go.Proofs.YtpecmnaikjbanaaGreatDoor
open Go Go.SL
attribute [local irreducible] J K Ctr Ends pts slc mapR mapI sbRow stock arrS loopP CtrY Sha.chunks Sha.chunk Sha.rounds Sha.sched sumL taggedL GI leafL
theorem kDg : KeyOk Tryz.prog 30 dV := keyDg Tryz.underlying30 Tryz.underlying5 blU8
/-- A set of hashes, as a map's entries. -/
def stD (l : List Dg) : List (Dg × Value) := l.map fun d => (d, .bool true)
theorem stD_look (l : List Dg) (d : Dg) : (alook (stD l) d).getD (.bool false) = .bool (decide (d ∈ l)) := by
  induction l with
  | nil => simp [stD, alook]
  | cons x l ih =>
    simp only [stD, alook, List.map_cons, List.find?_cons] at ih ⊢
    by_cases h : x = d
    · simp [h]
    · have h2 : ¬ d = x := fun e => h e.symm
      simp only [h, decide_false]
      rw [ih]; simp [h2]
theorem stD_set {l : List Dg} {d : Dg} (h : d ∉ l) : aset (stD l) d (.bool true) = stD (l ++ [d]) := by
  unfold aset
  have : d ∉ (stD l).map (·.1) := by simpa [stD] using h
  rw [if_neg this]; simp [stD]
theorem twice_iff (l : List Bl) : twiceB l = false ↔ (l.map Bl.d).Nodup := by
  induction l with
  | nil => simp [twiceB]
  | cons x l ih =>
    simp only [twiceB, Bool.or_eq_false_iff, ih, List.map_cons, List.nodup_cons]
    constructor
    · rintro ⟨h1, h2⟩
      refine ⟨fun h => ?_, h2⟩
      obtain ⟨y, hy, he⟩ := List.mem_map.1 h
      have := List.any_eq_false.1 h1 y hy
      exact this (by simpa using he)
    · rintro ⟨h1, h2⟩
      refine ⟨List.any_eq_false.2 fun y hy he => h1 (List.mem_map.2 ⟨y, hy, by simpa using he⟩), h2⟩
theorem blC_one (l : List Bl) : ∀ v ∈ l.flatMap blC, v.oneCell' = true := by
  intro v hv
  obtain ⟨x, _, h⟩ := List.mem_flatMap.1 hv
  simp only [blC, List.mem_append, List.mem_cons, List.not_mem_nil, or_false] at h
  rcases h with (h | rfl | rfl) | h
  · rw [dC_bV] at h; exact bV_one _ v h
  · rfl
  · rfl
  · rw [dC_bV] at h; exact bV_one _ v h
theorem blE {l : List Bl} {i : Nat} {x : Bl} (hx : l[i]? = some x) (q : Nat) (v : Value) (hq : (blC x)[q]? = some v) : (l.flatMap blC)[i * 66 + q]? = some v := by
  rw [chunk_get blC_len hx q (by rcases Nat.lt_or_ge q 66 with h | h; exact h; rw [List.getElem?_eq_none (by rw [blC_len]; exact h)] at hq; cases hq)]
  exact hq
theorem blNe {l : List Bl} {i : Nat} (h : i < l.length) : l.flatMap blC ≠ [] := by
  rw [← List.length_pos_iff, chunk_len blC_len]; omega
theorem IndexFunc_bl (A X : HP) (v : Value) (l : List Bl) (hv : Vw A v l.length (l.flatMap blC)) (hlen : l.length ≤ 1000000) (g : FuncId) (cap : List Value) (p : Bl → Bool)
    (hf : ∀ x ∈ l, Ctr Tryz.prog g (blV x :: cap) [X] (fun v H => v = .bool (p x) ∧ H = [X])) :
    Ctr Tryz.prog 114 [v, .func (.func g) #[] cap.toArray] [A, X] (fun r H => r = .int .i64 (idxI p l) ∧ H = [A, X]) := by
  obtain ⟨a, c0, rfl⟩ := hv.shape
  unfold blV at hf
  refine Ctr.enter Tryz.func114 (by kernel_rfl) rfl Tryz.ntmps114 rfl rfl ?_
  intro G F R hR
  (refine go ?_)
  refine K_loop (fun i : Nat => i ≤ l.length ∧ ∀ y ∈ l.take i, p y = false) (fun i => l.length - i) (fun i => [(0, .slice a l.length c0), (1, .func (.func g) #[] cap.toArray), (7, .int .i64 l.length), (8, .int .i64 i)]) (fun _ => [A, X] ++ F) 0 ⟨by simp, by simp⟩ rfl (by repeat (first | exact keep_nil | refine keep_cons rfl ?_)) (Ent.refl _) ?_
  rintro i ⟨hi, hb⟩ ih
  (refine go ?_)
  refine K_condP rfl rfl ?_ ?_
  · intro hlt
    (refine go ?_)
    have hi' : i < l.length := by omega
    have hx : l[i]? = some l[i] := by simp [hi']
    generalize hxx : l[i] = x at hx
    obtain ⟨b, o, cap', hsl⟩ := hv.some (blNe hi')
    simp only [Value.slice.injEq] at hsl
    obtain ⟨rfl, _, rfl⟩ := hsl
    refine J_at (U := tab) i 66 rfl rfl rfl rfl rfl rfl rfl rfl hi' ?_
    refine J_loadElem (U := tab) (es := blC x) 0 (i * 66) rfl rfl rfl hv rfl (blE hx) rfl rfl rfl ?_
    refine J_call [1] rfl rfl rfl rfl (hf x (List.mem_of_getElem? hx)) rfl (fun _ _ _ _ _ => trivial) ?_
    rintro _ _ ⟨rfl, rfl⟩
    (refine go ?_)
    refine K_condA rfl rfl ?_ ?_
    · intro hp
      (refine go ?_)
      refine K_return hR Tryz.func114 rfl _ rfl ⟨by rw [idxI_some hx hp hb]; rfl, rfl⟩ (Ent.fin [1, 0] 0 rfl rfl)
    · intro hp
      (refine go ?_)
      refine K_again ih (i + 1) rfl ⟨by omega, allTake hb hx hp⟩ (by omega) (by repeat (first | exact keep_nil | refine keep_cons rfl ?_)) (Ent.pick [1, 0] rfl)
  · intro hge
    (refine go ?_)
    have : i = l.length := by omega
    subst this
    refine K_return hR Tryz.func114 rfl _ rfl ⟨by rw [idxI_none (fun x hx => hb x (by simpa using hx))]; rfl, rfl⟩ (Ent.fin [0, 1] 0 rfl rfl)
theorem ContainsFunc_bl (A X : HP) (v : Value) (l : List Bl) (hv : Vw A v l.length (l.flatMap blC)) (hlen : l.length ≤ 1000000) (g : FuncId) (cap : List Value) (p : Bl → Bool)
    (hf : ∀ x ∈ l, Ctr Tryz.prog g (blV x :: cap) [X] (fun v H => v = .bool (p x) ∧ H = [X])) :
    Ctr Tryz.prog 73 [v, .func (.func g) #[] cap.toArray] [A, X] (fun r H => r = .bool (l.any p) ∧ H = [A, X]) := by
  refine Ctr.enter Tryz.func73 (by kernel_rfl) rfl Tryz.ntmps73 rfl rfl ?_
  intro G F R hR
  (refine go ?_)
  refine J_call [0, 1] rfl rfl rfl rfl (IndexFunc_bl A X v l hv hlen g cap p hf) rfl (fun _ _ _ _ _ => trivial) ?_
  rintro _ _ ⟨rfl, rfl⟩
  (refine go ?_)
  have hb : decide (0 ≤ idxI p l) = l.any p := by
    rw [show decide (0 ≤ idxI p l) = decide (¬ idxI p l < 0) from by rw [decide_eq_decide]; omega]
    rw [Bool.eq_iff_iff, decide_eq_true_iff, idxI_neg (p := p) (l := l), Bool.not_eq_false]
  refine K_return hR Tryz.func73 rfl _ rfl ⟨congrArg Value.bool hb, rfl⟩ (Ent.fin [0, 1] 0 rfl rfl)
theorem odd_any (x : Bl) : Ctr Tryz.prog 113 [blV x] [emp] (fun r H => r = .bool (!rightB x) ∧ H = [emp]) := by
  unfold blV
  refine Ctr.enter Tryz.func113 (by kernel_rfl) rfl Tryz.ntmps113 rfl rfl ?_
  intro G F R hE
  refine K_regionA rfl ?_
  refine J_box rfl rfl (fun _ _ _ => trivial) ?_
  intro b1
  (refine go ?_)
  refine J_loadArr (U := tab) 0 rfl rfl rfl rfl rfl rfl ?_
  (first | refine J_callE rfl rfl rfl rfl (Right_any x) entA ?_ (fun _ _ _ _ _ => trivial) | refine J_call0E rfl rfl rfl (Right_any x) entA ?_ (fun _ _ _ _ _ => trivial) | (refine go ?_; first | refine J_callE rfl rfl rfl rfl (Right_any x) entA ?_ (fun _ _ _ _ _ => trivial) | refine J_call0E rfl rfl rfl (Right_any x) entA ?_ (fun _ _ _ _ _ => trivial)))
  rintro _ _ ⟨rfl, rfl⟩
  (refine go ?_)
  (first | refine K_return hE Tryz.func113 rfl _ rfl ⟨rfl, rfl⟩ entA | refine K_fallEnd hE Tryz.func113 rfl _ rfl ⟨rfl, rfl⟩ entA)
/-- An image, as a value: its layers' slice. -/
def imV (v : Value) : Value := .agg #[v]
set_option maxRecDepth 20000 in
theorem Image_any (A : HP) (v : Value) (l : List Bl) (hv : Vw A v l.length (l.flatMap blC)) (hlen : l.length ≤ 1000000) :
    Ctr Tryz.prog 70 [imV v] [A] (fun r H => r = .int .i64 (imageB l : Int) ∧ H = [A]) := by
  obtain ⟨a, c, rfl⟩ := hv.shape
  unfold imV
  refine Ctr.enter Tryz.func70 (by kernel_rfl) rfl Tryz.ntmps70 rfl rfl ?_
  intro G F R hE
  refine K_regionA rfl ?_
  refine J_box rfl rfl (fun _ _ _ => trivial) ?_
  intro b1
  refine J_ent (Ent.addEmp _) ?_
  have h1 : (l.length < 1 ∨ 16 < l.length ∨ l.any (fun x => !rightB x) = true) → imageB l = 1 := fun h => by unfold imageB; rw [if_pos h]
  have h2 : ¬ (l.length < 1 ∨ 16 < l.length ∨ l.any (fun x => !rightB x) = true) → imageB l = if twiceB l then 5 else 0 := fun h => by unfold imageB; rw [if_neg h]
  repeat' (first | (with_reducible intro _hh) | refine go1 ?_ | refine J_fork ?_ ?_ | refine J_gsP rfl rfl rfl rfl ?_ ?_ | refine K_condP rfl rfl ?_ ?_ | (refine J_callE rfl rfl rfl rfl (ContainsFunc_bl A emp _ l hv hlen 113 [] (fun x => !rightB x) (fun x _ => odd_any x)) entA ?_ (fun _ _ _ _ _ => trivial); rintro _ _ ⟨rfl, rfl⟩))
  · rw [h1 (.inl (by omega))] at hE
    (first | refine K_return hE Tryz.func70 rfl _ rfl ⟨rfl, rfl⟩ entA | refine K_fallEnd hE Tryz.func70 rfl _ rfl ⟨rfl, rfl⟩ entA)
  · rw [h1 (.inr (.inl (by omega)))] at hE
    (first | refine K_return hE Tryz.func70 rfl _ rfl ⟨rfl, rfl⟩ entA | refine K_fallEnd hE Tryz.func70 rfl _ rfl ⟨rfl, rfl⟩ entA)
  cases hany : l.any (fun x => !rightB x) with
  | true =>
    rw [h1 (.inr (.inr hany))] at hE
    (refine go ?_)
    (first | refine K_return hE Tryz.func70 rfl _ rfl ⟨rfl, rfl⟩ entA | refine K_fallEnd hE Tryz.func70 rfl _ rfl ⟨rfl, rfl⟩ entA)
  | false =>
    have h3 := h2 (fun h => by rcases h with h | h | h; exact absurd h (by omega); exact absurd h (by omega); rw [hany] at h; cases h)
    rw [h3] at hE
    (refine go ?_)
    refine J_makeMap rfl (fun _ _ _ => trivial) ?_
    intro bm
    (first | refine K_ent (Ent.fold (B := [_]) (A := mapR dV bm (stD [])) (fun h hs => ⟨h, sub.refl h, mapR_new dV bm h (Sep_one hs)⟩)) ?_ | refine J_ent (Ent.fold (B := [_]) (A := mapR dV bm (stD [])) (fun h hs => ⟨h, sub.refl h, mapR_new dV bm h (Sep_one hs)⟩)) ?_)
    (refine go ?_)
    refine K_loop (fun i : Nat => i ≤ l.length ∧ ((l.take i).map Bl.d).Nodup) (fun i => l.length - i)
      (fun i => [(1, ptr b1), (4, .map (some bm)), (25, .slice a l.length c), (26, .int .i64 (l.length : Int)), (27, .int .i64 (i : Int))])
      (fun i => mapR dV bm (stD ((l.take i).map Bl.d)) :: A :: F) 0 ⟨Nat.zero_le _, by simp⟩ rfl (by repeat (first | exact keep_nil | refine keep_cons rfl ?_)) entA ?_
    rintro i ⟨hi, hnd⟩ ih
    (refine go ?_)
    refine K_condP rfl rfl ?_ ?_
    · intro hlt
      have hi' : i < l.length := by omega
      obtain ⟨x, hx⟩ : ∃ x, l[i]? = some x := ⟨l[i], by simp⟩
      obtain ⟨b, o, cap', hsl⟩ := hv.some (blNe hi')
      simp only [Value.slice.injEq] at hsl
      obtain ⟨rfl, _, rfl⟩ := hsl
      have htk : (l.take (i + 1)).map Bl.d = (l.take i).map Bl.d ++ [x.d] := by rw [List.take_add_one, hx]; simp
      (refine go ?_)
      refine J_at (U := tab) i 66 rfl rfl rfl rfl rfl rfl rfl rfl hi' ?_
      refine J_isLoad ?_
      refine J_loadElem (U := tab) (es := blC x) 1 (i * 66) rfl rfl rfl hv rfl (blE hx) rfl rfl rfl ?_
      refine J_alloc (U := tab) rfl rfl rfl (fun _ _ _ => trivial) ?_
      intro b6
      (refine go ?_)
      refine J_loadAgg (U := tab) 0 rfl rfl rfl rfl rfl rfl ?_
      refine J_lookup (U := tab) (key := x.d) 1 rfl kDg rfl rfl rfl rfl rfl rfl rfl rfl ?_
      refine J_slot 34 (.bool (decide (x.d ∈ (l.take i).map Bl.d))) rfl (stD_look _ _) ?_
      (refine go ?_)
      refine K_condP rfl rfl ?_ ?_
      · intro hin
        have htw : twiceB l = true := by
          cases h : twiceB l with
          | true => rfl
          | false =>
            exfalso
            have hN := (twice_iff l).1 h
            have hsub : ((l.take (i + 1)).map Bl.d).Nodup := hN.sublist ((List.take_sublist _ _).map _)
            rw [htk, List.nodup_append] at hsub
            exact hsub.2.2 _ hin _ (by simp) rfl
        rw [htw] at hE
        (refine go ?_)
        (first | refine K_return hE Tryz.func70 rfl _ rfl ⟨rfl, rfl⟩ entA | refine K_fallEnd hE Tryz.func70 rfl _ rfl ⟨rfl, rfl⟩ entA)
      · intro hnin
        (refine go ?_)
        refine J_loadAgg (U := tab) 0 rfl rfl rfl rfl rfl rfl ?_
        refine J_mapUpdate (U := tab) (key := x.d) 1 kDg (fun _ _ => trivial) rfl rfl rfl rfl rfl rfl rfl rfl ?_
        rw [stD_set hnin, ← htk]
        (refine go ?_)
        refine K_again ih (i + 1) rfl ⟨by omega, by rw [htk, List.nodup_append]; exact ⟨hnd, by simp, fun p hp q hq => by simp at hq; subst hq; exact fun e => hnin (e ▸ hp)⟩⟩ (by omega) (by repeat (first | exact keep_nil | refine keep_cons rfl ?_)) entA
    intro hge
    have hie : i = l.length := by omega
    subst hie
    rw [List.take_length] at hnd
    rw [(twice_iff l).2 hnd] at hE
    (refine go ?_)
    (first | refine K_return hE Tryz.func70 rfl _ rfl ⟨rfl, rfl⟩ entA | refine K_fallEnd hE Tryz.func70 rfl _ rfl ⟨rfl, rfl⟩ entA)
end Go.Proofs.YtpecmnaikjbanaaGreatDoor

/- manifest: an image as bytes, its name. -/
set_option linter.unusedVariables false
set_option linter.unusedSimpArgs false
namespace Go.Proofs.YtpecmnaikjbanaaGreatDoor
open Go Go.SL
attribute [local irreducible] J K Ctr Ends pts slc mapR mapI sbRow stock arrS loopP CtrY Sha.chunks Sha.chunk Sha.rounds Sha.sched sumL taggedL GI leafL
theorem BAt.ptsO {b o n : Nat} {bs : List UInt8} {l : List Value} {e : TypeId} (hn : bs.length = n) (hl : (l.drop o).take n = bV bs) : BAt (pts b (cl l e)) (.slice (some ⟨b, o, none⟩) n n) bs := by
  subst hn
  exact ⟨Vw.pts (by rw [bV_length]; exact hl), _, _, rfl, Nat.le_refl _⟩
theorem itemsI_app : ∀ (l : List Bl) (i : Nat) (x : Bl), itemsI i (l ++ [x]) = itemsI i l ++ [(((i + l.length : Nat) : Int) + 1, recL (itemsB x))]
  | [], i, x => by simp [itemsI]
  | y :: l, i, x => by
    simp only [List.cons_append, itemsI, itemsI_app l (i + 1) x, List.length_cons]
    rw [show i + 1 + l.length = i + (l.length + 1) from by omega]
theorem itemsI_length : ∀ (l : List Bl) (i : Nat), (itemsI i l).length = l.length
  | [], i => rfl
  | y :: l, i => by simp only [itemsI, List.length_cons, itemsI_length l (i + 1)]
/-- Items that stand in Z, and what stands of them. -/
structure Its where
  l : List It
  Z : HP
set_option maxRecDepth 20000 in
set_option maxHeartbeats 1000000 in
theorem mEncode_any (A : HP) (v : Value) (l : List Bl) (hv : Vw A v l.length (l.flatMap blC)) (hlen : l.length ≤ 1000000) :
    Ctr Tryz.prog 74 [imV v] [A] (fun r H => (imageB l ≠ 0 ∧ r = .tuple #[.slice none 0 0, .int .i64 (imageB l : Int)] ∧ H = [A]) ∨
      ∃ rv, imageB l = 0 ∧ r = .tuple #[rv, .int .i64 0] ∧ H = [slc 5 1 rv (encB l).length (bV (encB l)), A]) := by
  have him := Image_any A v l hv hlen
  obtain ⟨a, c, rfl⟩ := hv.shape
  unfold imV at him ⊢
  refine Ctr.enter Tryz.func74 (by kernel_rfl) rfl Tryz.ntmps74 rfl rfl ?_
  intro G F R hE
  refine K_regionA rfl ?_
  refine J_box rfl rfl (fun _ _ _ => trivial) ?_
  intro b1
  (refine go ?_)
  refine J_loadArr (U := tab) (l := [.slice a l.length c]) 0 rfl rfl rfl rfl rfl rfl ?_
  (first | refine J_callE rfl rfl rfl rfl (him) entA ?_ (fun _ _ _ _ _ => trivial) | refine J_call0E rfl rfl rfl (him) entA ?_ (fun _ _ _ _ _ => trivial) | (refine go ?_; first | refine J_callE rfl rfl rfl rfl (him) entA ?_ (fun _ _ _ _ _ => trivial) | refine J_call0E rfl rfl rfl (him) entA ?_ (fun _ _ _ _ _ => trivial)))
  rintro _ _ ⟨rfl, rfl⟩
  (refine go ?_)
  refine K_condP rfl rfl ?_ ?_
  · intro hne
    have hne' : imageB l ≠ 0 := by omega
    (refine go ?_)
    (first | refine K_return hE Tryz.func74 rfl _ rfl (.inl ⟨hne', rfl, rfl⟩) entA | refine K_fallEnd hE Tryz.func74 rfl _ rfl (.inl ⟨hne', rfl, rfl⟩) entA)
  intro heq
  have h0 : imageB l = 0 := by omega
  obtain ⟨hl16, hl1, hright⟩ := imageB_right h0
  (refine go ?_)
  refine K_ent (Ent.trans (Ent.resep [] _) (slc_lift 149 2 none _)) ?_
  refine K_loop (fun y : Nat × Its × Option Addr × Nat => y.1 ≤ l.length ∧ y.2.1.l.map It.p = itemsI 0 (l.take y.1) ∧ ∀ z ∈ y.2.1.l, BAt y.2.1.Z z.v z.b) (fun y => l.length - y.1)
    (fun y => [(1, ptr b1), (5, .slice y.2.2.1 y.2.1.l.length y.2.2.2), (18, .slice a l.length c), (19, .int .i64 (l.length : Int)), (20, .int .i64 (y.1 : Int))])
    (fun y => slc 149 2 (.slice y.2.2.1 y.2.1.l.length y.2.2.2) y.2.1.l.length (y.2.1.l.flatMap itC) :: y.2.1.Z :: A :: F) (0, ⟨[], Sep []⟩, none, 0) ⟨Nat.zero_le _, rfl, by simp⟩ rfl (by repeat (first | exact keep_nil | refine keep_cons rfl ?_)) entA ?_
  rintro ⟨i, ⟨its, Z⟩, ia, ic⟩ ⟨hi, hip, hib⟩ ih
  simp only at hi hip hib
  dsimp only
  have hitl : its.length = i := by
    have := congrArg List.length hip
    rw [List.length_map, itemsI_length, List.length_take] at this; omega
  (refine go ?_)
  refine K_condP rfl rfl ?_ ?_
  · intro hlt
    have hi' : i < l.length := by omega
    obtain ⟨x, hx⟩ : ∃ x, l[i]? = some x := ⟨l[i], by simp⟩
    have hxr := hright x (List.mem_of_getElem? hx)
    have hxr' := hxr
    simp only [rightB, decide_eq_true_eq] at hxr'
    obtain ⟨sz, hsz⟩ : ∃ m : Nat, x.size = m := ⟨x.size.toNat, by omega⟩
    obtain ⟨pc, hpc⟩ : ∃ m : Nat, x.piece = m := ⟨x.piece.toNat, by omega⟩
    obtain ⟨b, o, cap', hsl⟩ := hv.some (blNe hi')
    simp only [Value.slice.injEq] at hsl
    obtain ⟨rfl, _, rfl⟩ := hsl
    (refine go ?_)
    refine J_at (U := tab) i 66 rfl rfl rfl rfl rfl rfl rfl rfl hi' ?_
    refine J_isLoad ?_
    refine J_loadElem (U := tab) (es := blC x) 2 (i * 66) rfl rfl rfl hv rfl (blE hx) rfl rfl rfl ?_
    refine J_alloc (U := tab) rfl rfl rfl (fun _ _ _ => trivial) ?_
    intro b7
    (refine go ?_)
    refine K_drawA (fun w => Sat G w ([pts b7 (cl (blC x) 32)])) (.st 0 (.st 1 (.st 2 (.st 4 (.st 5 (.st 6 (.act 3 (.act 7 (.st 8 (.st 9 .nil)))))))))) rfl (by kernel_rfl) (by kernel_rfl) (by kernel_rfl) (fun w hw => hw.ent entA) ?_
    (refine go ?_)
    (first | refine J_slot 27 ((.int .u64 (sz : Int))) rfl ((congrArg (Value.int .u64) hsz)) ?_ | refine K_slot 27 ((.int .u64 (sz : Int))) rfl ((congrArg (Value.int .u64) hsz)) ?_)
    (first | refine J_slot 31 ((.int .u64 (pc : Int))) rfl ((congrArg (Value.int .u64) hpc)) ?_ | refine K_slot 31 ((.int .u64 (pc : Int))) rfl ((congrArg (Value.int .u64) hpc)) ?_)
    (first | refine J_callE rfl rfl rfl rfl (Uint_any sz (by omega)) entA ?_ (fun _ _ w hp hw => by obtain rfl := hp; exact hw.ent entA) | refine J_call0E rfl rfl rfl (Uint_any sz (by omega)) entA ?_ (fun _ _ w hp hw => by obtain rfl := hp; exact hw.ent entA))
    rintro r8 _ rfl
    (first | refine J_callE rfl rfl rfl rfl (Uint_any pc (by omega)) entA ?_ (fun _ _ w hp hw => by obtain rfl := hp; exact hw.ent entA) | refine J_call0E rfl rfl rfl (Uint_any pc (by omega)) entA ?_ (fun _ _ w hp hw => by obtain rfl := hp; exact hw.ent entA))
    rintro r9 _ rfl
    (first | refine J_shape 0 rfl ?_ | refine K_shape 0 rfl ?_)
    rintro a9 c9 rfl
    (first | refine J_shape 1 rfl ?_ | refine K_shape 1 rfl ?_)
    rintro a8 c8 rfl
    refine J_slcB (bs := uv pc) 0 rfl ?_
    intro hb9
    refine J_slcB (bs := uv sz) 1 rfl ?_
    intro hb8
    (refine go ?_)
    obtain ⟨it4, hit4⟩ : ∃ it4 : List It, it4 = [⟨1, .slice (some ⟨b7, 0, none⟩) 32 32, x.d.bs⟩, ⟨2, .slice a8 (uv sz).length c8, uv sz⟩, ⟨3, .slice a9 (uv pc).length c9, uv pc⟩, ⟨4, .slice (some ⟨b7, 34, none⟩) 32 32, x.root.bs⟩] := ⟨_, rfl⟩
    have hp4 : it4.map It.p = itemsB x := by rw [hit4]; simp only [itemsB, List.map_cons, List.map_nil, It.p, hsz, hpc, Int.toNat_natCast]
    have hrl := itemsB_len x hxr
    refine K_drawA (fun w => Sat G w ([])) (.st 0 (.st 1 (.st 2 (.st 3 (.st 4 (.st 5 (.st 6 (.st 7 (.st 8 (.st 9 (.act 10 (.act 11 (.st 12 (.st 13 (.st 14 (.st 15 (.st 16 .nil))))))))))))))))) rfl (by kernel_rfl) (by kernel_rfl) (by kernel_rfl) (fun w hw => hw.ent entA) ?_
    (repeat (first | refine go1 ?_ | refine J_fork ?_ ?_ | refine J_sliceArr (U := tab) rfl rfl rfl rfl rfl ?_))
    refine J_buildSlice1 (U := tab) (cs := it4.flatMap itC) rfl rfl rfl rfl rfl rfl rfl rfl (by rw [hit4]; rfl) (fun _ _ hw => hw.ent entA) ?_
    intro row
    have h4 : it4.length = 4 := by rw [hit4]; rfl
    have hItA : ItemsAt (Sep [pts row (cl (it4.flatMap itC) 149), pts b7 (cl (blC x) 32), slc 5 1 (.slice a8 (uv sz).length c8) (uv sz).length (bV (uv sz)), slc 5 1 (.slice a9 (uv pc).length c9) (uv pc).length (bV (uv pc))]) (.slice (some ⟨row, 0, none⟩) 4 4) it4 := by
      refine ⟨?_, fun y hy => ?_⟩
      · rw [h4]
        exact (Vw.pts (by rw [List.drop_zero, List.take_length])).mono (Sep_get (i := 0) rfl)
      · rw [hit4] at hy
        simp only [List.mem_cons, List.not_mem_nil, or_false] at hy
        rcases hy with rfl | rfl | rfl | rfl
        · exact (BAt.ptsO x.d.len (by rw [← dC_bV]; exact blp0 x)).mono (Sep_get (i := 1) rfl)
        · exact hb8.mono (Sep_get (i := 2) rfl)
        · exact hb9.mono (Sep_get (i := 3) rfl)
        · exact (BAt.ptsO x.root.len (by rw [← dC_bV]; exact blp3 x)).mono (Sep_get (i := 1) rfl)
    have hrise : riseOk 0 (it4.map It.p) = true := by rw [hp4]; simp [itemsB, riseOk]
    have henc := tlvEncode_any _ _ it4 hItA (by omega) hrise (by rw [hp4]; omega)
    rw [hp4] at henc
    clear hrise hItA hp4 h4
    clear hit4
    refine J_ent (Ent.trans (Ent.pick [0, 3, 2, 1] rfl) (Ent.resep [pts row (cl (it4.flatMap itC) 149), pts b7 (cl (blC x) 32), slc 5 1 (.slice a8 (uv sz).length c8) (uv sz).length (bV (uv sz)), slc 5 1 (.slice a9 (uv pc).length c9) (uv pc).length (bV (uv pc))] _)) ?_
    (first | refine J_callE rfl rfl rfl rfl (henc) entA ?_ (fun _ _ w hp hw => by obtain ⟨_, _, rfl⟩ := hp; exact hw.ent entA) | refine J_call0E rfl rfl rfl (henc) entA ?_ (fun _ _ w hp hw => by obtain ⟨_, _, rfl⟩ := hp; exact hw.ent entA))
    rintro _ _ ⟨rr, rfl, rfl⟩
    (first | refine J_shape 0 rfl ?_ | refine K_shape 0 rfl ?_)
    rintro ra rc rfl
    refine J_slcB (bs := recL (itemsB x)) 0 rfl ?_
    intro hbr
    (refine go ?_)
    refine J_buildSlice1 (U := tab) (cs := itC ⟨(i : Int) + 1, .slice ra (recL (itemsB x)).length rc, recL (itemsB x)⟩) rfl rfl rfl rfl rfl rfl rfl rfl rfl (fun _ _ _ => trivial) ?_
    intro row2
    (refine go ?_)
    refine J_append (U := tab) (mm := 1) (news := itC ⟨(i : Int) + 1, .slice ra (recL (itemsB x)).length rc, recL (itemsB x)⟩) 3 0 rfl rfl rfl rfl rfl rfl rfl rfl rfl rfl rfl rfl (Vw.pts rfl) rfl (by intro v hv; simp [itC] at hv; rcases hv with rfl | rfl <;> rfl) (by omega) (by show (_ + _) * 32 ≤ _; omega) (fun _ => rfl) (fun _ _ _ => trivial) ?_
    intro v1
    rw [show its.flatMap itC ++ itC (⟨(i : Int) + 1, .slice ra (recL (itemsB x)).length rc, recL (itemsB x)⟩ : It) = (its ++ [(⟨(i : Int) + 1, .slice ra (recL (itemsB x)).length rc, recL (itemsB x)⟩ : It)]).flatMap itC from by simp, show its.length + 1 = (its ++ [(⟨(i : Int) + 1, .slice ra (recL (itemsB x)).length rc, recL (itemsB x)⟩ : It)]).length from by simp]
    (first | refine J_shape 3 rfl ?_ | refine K_shape 3 rfl ?_)
    rintro ja jc rfl
    (refine go ?_)
    have hip2 : (its ++ [(⟨(i : Int) + 1, .slice ra (recL (itemsB x)).length rc, recL (itemsB x)⟩ : It)]).map It.p = itemsI 0 (l.take (i + 1)) := by
      rw [List.take_add_one, hx, List.map_append, hip]
      simp only [Option.toList_some, itemsI_app, List.length_take, Nat.min_eq_left hi, Nat.zero_add, List.map_cons, List.map_nil, It.p]
    refine K_ent (Ent.trans (Ent.pick [1, 4] rfl) (Ent.resep [slc 5 1 (.slice ra (recL (itemsB x)).length rc) (recL (itemsB x)).length (bV (recL (itemsB x))), Z] _)) ?_
    refine K_again ih (i + 1, ⟨its ++ [(⟨(i : Int) + 1, .slice ra (recL (itemsB x)).length rc, recL (itemsB x)⟩ : It)], Sep [slc 5 1 (.slice ra (recL (itemsB x)).length rc) (recL (itemsB x)).length (bV (recL (itemsB x))), Z]⟩, ja, jc) rfl ⟨by simp only; omega, hip2, fun z hz => by
      rcases List.mem_append.1 hz with h | h
      · exact (hib z h).mono (Sep_get (i := 1) rfl)
      · rw [List.mem_singleton.1 h]; exact hbr.mono (Sep_get (i := 0) rfl)⟩ (by simp only; omega) (by repeat (first | exact keep_nil | refine keep_cons rfl ?_)) entA
  · intro hge
    have hie : i = l.length := by omega
    subst hie
    rw [List.take_length] at hip
    have hel := encB_len h0
    unfold encB at hel
    have hrise := itemsI_rise l 0 (by omega)
    rw [← hip] at hel hrise
    refine K_slcVw 0 rfl ?_
    intro hvw
    have hItA : ItemsAt (Sep [slc 149 2 (.slice ia its.length ic) its.length (its.flatMap itC), Z]) (.slice ia its.length ic) its := ⟨hvw.mono (Sep_get (i := 0) rfl), fun y hy => (hib y hy).mono (Sep_get (i := 1) rfl)⟩
    have henc := tlvEncode_any _ _ its hItA (by omega) hrise (by omega)
    have hee : recL (its.map It.p) = encB l := by rw [hip]; rfl
    rw [hee] at henc
    (refine go ?_)
    refine J_ent (Ent.resep [_, _] _) ?_
    (first | refine J_callE rfl rfl rfl rfl (henc) entA ?_ (fun _ _ _ _ _ => trivial) | refine J_call0E rfl rfl rfl (henc) entA ?_ (fun _ _ _ _ _ => trivial) | (refine go ?_; first | refine J_callE rfl rfl rfl rfl (henc) entA ?_ (fun _ _ _ _ _ => trivial) | refine J_call0E rfl rfl rfl (henc) entA ?_ (fun _ _ _ _ _ => trivial)))
    rintro _ _ ⟨rr, rfl, rfl⟩
    (refine go ?_)
    (first | refine K_return hE Tryz.func74 rfl _ rfl (.inr ⟨rr, h0, rfl, rfl⟩) entA | refine K_fallEnd hE Tryz.func74 rfl _ rfl (.inr ⟨rr, h0, rfl, rfl⟩) entA)
set_option maxRecDepth 20000 in
theorem Name_any (A : HP) (hK : KAt A) (v : Value) (l : List Bl) (hv : Vw A v l.length (l.flatMap blC)) (hlen : l.length ≤ 1000000) :
    Ctr Tryz.prog 71 [imV v] [A] (fun r H => r = (if imageB l = 0 then .tuple #[dV (nameB l), .int .i64 0] else .tuple #[dV Dg.zero, .int .i64 (imageB l : Int)]) ∧ H = [A]) := by
  have him := mEncode_any A v l hv hlen
  obtain ⟨a, c, rfl⟩ := hv.shape
  unfold imV at him ⊢
  refine Ctr.enter Tryz.func71 (by kernel_rfl) rfl Tryz.ntmps71 rfl rfl ?_
  intro G F R hE
  refine K_regionA rfl ?_
  refine J_box rfl rfl (fun _ _ _ => trivial) ?_
  intro b1
  refine J_alloc (U := tab) rfl rfl rfl (fun _ _ _ => trivial) ?_
  intro b2
  (refine go ?_)
  refine J_loadArr (U := tab) (l := [.slice a l.length c]) 1 rfl rfl rfl rfl rfl rfl ?_
  (first | refine J_callE rfl rfl rfl rfl (him) entA ?_ (fun _ _ _ _ _ => trivial) | refine J_call0E rfl rfl rfl (him) entA ?_ (fun _ _ _ _ _ => trivial) | (refine go ?_; first | refine J_callE rfl rfl rfl rfl (him) entA ?_ (fun _ _ _ _ _ => trivial) | refine J_call0E rfl rfl rfl (him) entA ?_ (fun _ _ _ _ _ => trivial)))
  rintro _ _ (⟨h0, rfl, rfl⟩ | ⟨rv, h0, rfl, rfl⟩)
  · rw [if_neg h0] at hE
    (refine go ?_)
    refine K_condP rfl rfl ?_ ?_
    case' refine_2 => (intro h; exfalso; omega)
    intro _
    (refine go ?_)
    refine J_build0 (U := tab) rfl rfl rfl rfl rfl ?_
    (refine go ?_)
    (refine K_noMarks hE ?_; apply K_returnV (U := tab) hE Tryz.func71 rfl (Ent.refl _); (repeat (first | exact ResOk.nil | apply ResOk.tmp rfl | apply ResOk.agg 0 rfl rfl rfl rfl rfl | apply ResOk.agg 1 rfl rfl rfl rfl rfl | apply ResOk.agg 2 rfl rfl rfl rfl rfl | apply ResOk.agg 3 rfl rfl rfl rfl rfl | apply ResOk.agg 4 rfl rfl rfl rfl rfl | apply ResOk.agg 5 rfl rfl rfl rfl rfl | apply ResOk.agg 6 rfl rfl rfl rfl rfl | apply ResOk.agg 7 rfl rfl rfl rfl rfl | apply ResOk.agg 8 rfl rfl rfl rfl rfl | apply ResOk.one 0 rfl rfl rfl rfl | apply ResOk.one 1 rfl rfl rfl rfl | apply ResOk.one 2 rfl rfl rfl rfl | apply ResOk.one 3 rfl rfl rfl rfl | apply ResOk.one 4 rfl rfl rfl rfl | apply ResOk.one 5 rfl rfl rfl rfl | apply ResOk.one 6 rfl rfl rfl rfl)); exact ⟨rfl, rfl⟩; exact entA)
  · rw [if_pos h0] at hE
    have hel := encB_len h0
    refine J_slcB (bs := encB l) 0 rfl ?_
    intro hbe
    refine J_ent (Ent.resep [_, _] _) ?_
    (refine go ?_)
    (first | refine J_callE rfl rfl rfl rfl (Sum_any _ (hK.mono (Sep_get (H := [slc 5 1 rv (encB l).length (bV (encB l)), A]) (i := 1) rfl)) rv (encB l) (hbe.mono (Sep_get (i := 0) rfl)) (by omega)) entA ?_ (fun _ _ _ _ _ => trivial) | refine J_call0E rfl rfl rfl (Sum_any _ (hK.mono (Sep_get (H := [slc 5 1 rv (encB l).length (bV (encB l)), A]) (i := 1) rfl)) rv (encB l) (hbe.mono (Sep_get (i := 0) rfl)) (by omega)) entA ?_ (fun _ _ _ _ _ => trivial) | (refine go ?_; first | refine J_callE rfl rfl rfl rfl (Sum_any _ (hK.mono (Sep_get (H := [slc 5 1 rv (encB l).length (bV (encB l)), A]) (i := 1) rfl)) rv (encB l) (hbe.mono (Sep_get (i := 0) rfl)) (by omega)) entA ?_ (fun _ _ _ _ _ => trivial) | refine J_call0E rfl rfl rfl (Sum_any _ (hK.mono (Sep_get (H := [slc 5 1 rv (encB l).length (bV (encB l)), A]) (i := 1) rfl)) rv (encB l) (hbe.mono (Sep_get (i := 0) rfl)) (by omega)) entA ?_ (fun _ _ _ _ _ => trivial)))
    rintro _ _ ⟨rfl, rfl⟩
    refine J_ent (Ent.unsep _ _) ?_
    (refine go ?_)
    (refine K_noMarks hE ?_; apply K_returnV (U := tab) hE Tryz.func71 rfl (Ent.refl _); (repeat (first | exact ResOk.nil | apply ResOk.tmp rfl | apply ResOk.agg 0 rfl rfl rfl rfl rfl | apply ResOk.agg 1 rfl rfl rfl rfl rfl | apply ResOk.agg 2 rfl rfl rfl rfl rfl | apply ResOk.agg 3 rfl rfl rfl rfl rfl | apply ResOk.agg 4 rfl rfl rfl rfl rfl | apply ResOk.agg 5 rfl rfl rfl rfl rfl | apply ResOk.agg 6 rfl rfl rfl rfl rfl | apply ResOk.agg 7 rfl rfl rfl rfl rfl | apply ResOk.agg 8 rfl rfl rfl rfl rfl | apply ResOk.one 0 rfl rfl rfl rfl | apply ResOk.one 1 rfl rfl rfl rfl | apply ResOk.one 2 rfl rfl rfl rfl | apply ResOk.one 3 rfl rfl rfl rfl | apply ResOk.one 4 rfl rfl rfl rfl | apply ResOk.one 5 rfl rfl rfl rfl | apply ResOk.one 6 rfl rfl rfl rfl)); exact ⟨rfl, rfl⟩; exact entA)
end Go.Proofs.YtpecmnaikjbanaaGreatDoor

/- manifest: a blob, an image out of bytes. -/
set_option linter.unusedVariables false
set_option linter.unusedSimpArgs false
namespace Go.Proofs.YtpecmnaikjbanaaGreatDoor
open Go Go.SL
attribute [local irreducible] J K Ctr Ends pts slc mapR mapI sbRow stock arrS loopP CtrY Sha.chunks Sha.chunk Sha.rounds Sha.sched sumL taggedL GI leafL
def blobR (o : Option Bl) : Value := match o with
  | none => .tuple #[blV Bl.zero, .bool false]
  | some x => .tuple #[blV x, .bool true]
theorem blobD_none {b : List UInt8} (h : tlvA b = none) : blobD b = none := by unfold blobD; rw [h]
theorem blobD_len {b : List UInt8} {xs : List (Int × List UInt8)} (h : tlvA b = some xs) (hl : xs.length ≠ 4) : blobD b = none := by
  unfold blobD; rw [h]
  match xs, hl with
  | [], _ => rfl
  | [_], _ => rfl
  | [_, _], _ => rfl
  | [_, _, _], _ => rfl
  | _ :: _ :: _ :: _ :: _ :: _, _ => rfl
  | [_, _, _, _], h => exact absurd rfl h
theorem blobD_four {b : List UInt8} {n1 n2 n3 n4 : Int} {b1 b2 b3 b4 : List UInt8} (h : tlvA b = some [(n1, b1), (n2, b2), (n3, b3), (n4, b4)]) :
    blobD b = if n4 ≠ 4 ∨ b1.length ≠ 32 ∨ b4.length ≠ 32 then none else match toUintA b2, toUintA b3 with
    | some s, some p => if 1048576 < max s p then none else some ⟨dgOf b1, s, p, dgOf b4⟩
    | _, _ => none := by unfold blobD; rw [h]; rfl
theorem dgOf_len {b : List UInt8} (h : b.length = 32) : bV b = dC (dgOf b) := by
  unfold dgOf; rw [dif_pos h, dC_bV]
theorem tlvL_mem : ∀ (f : Nat) (b : List UInt8) (x : Int × List UInt8), x ∈ tlvL f b → x.2.length ≤ b.length
  | 0, b, x, h => by simp [tlvL] at h
  | f + 1, [], x, h => by simp [tlvL] at h
  | f + 1, c :: r, x, h => by
    have h1 := cutA_len r
    rw [tlvL] at h
    rw [List.length_cons]
    split at h
    · rcases List.mem_cons.1 h with rfl | h
      · simp only [List.length_take]; omega
      · have := tlvL_mem f _ x h
        rw [List.length_drop] at this; omega
    · simp at h; subst h; simp
theorem tlvA_mem {b : List UInt8} {l : List (Int × List UInt8)} (h : tlvA b = some l) : ∀ x ∈ l, x.2.length ≤ 65536 := by
  unfold tlvA at h
  split at h
  · cases h
  · split at h
    · cases h
      intro x hx
      have := tlvL_mem _ _ x hx; omega
    · cases h
set_option maxRecDepth 20000 in
set_option maxHeartbeats 1000000 in
theorem mblob_any (A : HP) (v : Value) (b : List UInt8) (hv : BAt A v b) (hl : b.length ≤ 1000000000) :
    Ctr Tryz.prog 129 [v] [A] (fun r H => r = blobR (blobD b) ∧ H = [A]) := by
  have htd := tlvDecode_any A v b hv hl
  obtain ⟨a, c, rfl, hc⟩ := hv.2
  refine Ctr.enter Tryz.func129 (by kernel_rfl) rfl Tryz.ntmps129 rfl rfl ?_
  intro G F R hE
  refine K_regionA rfl ?_
  refine J_alloc (U := tab) rfl rfl rfl (fun _ _ _ => trivial) ?_
  intro b2
  (refine go ?_)
  (first | refine J_callE rfl rfl rfl rfl (htd) entA ?_ (fun _ _ _ _ _ => trivial) | refine J_call0E rfl rfl rfl (htd) entA ?_ (fun _ _ _ _ _ => trivial) | (refine go ?_; first | refine J_callE rfl rfl rfl rfl (htd) entA ?_ (fun _ _ _ _ _ => trivial) | refine J_call0E rfl rfl rfl (htd) entA ?_ (fun _ _ _ _ _ => trivial)))
  rintro _ _ (⟨hn, rfl, rfl⟩ | ⟨xs, its, Z, rv, hs, hip, ⟨hvw, hib⟩, rfl, rfl⟩)
  · rw [blobD_none hn] at hE
    repeat' (first | (with_reducible intro _hh) | refine go1 ?_ | refine J_fork ?_ ?_ | refine J_gsP rfl rfl rfl rfl ?_ ?_ | refine K_condP rfl rfl ?_ ?_)
    all_goals (first | (exfalso; omega) | skip)
    (refine K_noMarks hE ?_; apply K_returnV (U := tab) hE Tryz.func129 rfl (Ent.refl _); (repeat (first | exact ResOk.nil | apply ResOk.tmp rfl | apply ResOk.agg 0 rfl rfl rfl rfl rfl | apply ResOk.agg 1 rfl rfl rfl rfl rfl | apply ResOk.agg 2 rfl rfl rfl rfl rfl | apply ResOk.agg 3 rfl rfl rfl rfl rfl | apply ResOk.agg 4 rfl rfl rfl rfl rfl | apply ResOk.agg 5 rfl rfl rfl rfl rfl | apply ResOk.agg 6 rfl rfl rfl rfl rfl | apply ResOk.agg 7 rfl rfl rfl rfl rfl | apply ResOk.agg 8 rfl rfl rfl rfl rfl | apply ResOk.one 0 rfl rfl rfl rfl | apply ResOk.one 1 rfl rfl rfl rfl | apply ResOk.one 2 rfl rfl rfl rfl | apply ResOk.one 3 rfl rfl rfl rfl | apply ResOk.one 4 rfl rfl rfl rfl | apply ResOk.one 5 rfl rfl rfl rfl | apply ResOk.one 6 rfl rfl rfl rfl)); exact ⟨rfl, rfl⟩; exact entA)
  obtain ⟨ra, rc, rfl⟩ := hvw.shape
  by_cases h4 : its.length = 4
  case neg =>
    rw [blobD_len hs (by rw [← hip, List.length_map]; exact h4)] at hE
    repeat' (first | (with_reducible intro _hh) | refine go1 ?_ | refine J_fork ?_ ?_ | refine J_gsP rfl rfl rfl rfl ?_ ?_ | refine K_condP rfl rfl ?_ ?_)
    all_goals (first | (exfalso; omega) | skip)
    (refine K_noMarks hE ?_; apply K_returnV (U := tab) hE Tryz.func129 rfl (Ent.refl _); (repeat (first | exact ResOk.nil | apply ResOk.tmp rfl | apply ResOk.agg 0 rfl rfl rfl rfl rfl | apply ResOk.agg 1 rfl rfl rfl rfl rfl | apply ResOk.agg 2 rfl rfl rfl rfl rfl | apply ResOk.agg 3 rfl rfl rfl rfl rfl | apply ResOk.agg 4 rfl rfl rfl rfl rfl | apply ResOk.agg 5 rfl rfl rfl rfl rfl | apply ResOk.agg 6 rfl rfl rfl rfl rfl | apply ResOk.agg 7 rfl rfl rfl rfl rfl | apply ResOk.agg 8 rfl rfl rfl rfl rfl | apply ResOk.one 0 rfl rfl rfl rfl | apply ResOk.one 1 rfl rfl rfl rfl | apply ResOk.one 2 rfl rfl rfl rfl | apply ResOk.one 3 rfl rfl rfl rfl | apply ResOk.one 4 rfl rfl rfl rfl | apply ResOk.one 5 rfl rfl rfl rfl | apply ResOk.one 6 rfl rfl rfl rfl)); exact ⟨rfl, rfl⟩; exact entA)
  obtain ⟨i1, i2, i3, i4, rfl⟩ : ∃ i1 i2 i3 i4, its = [i1, i2, i3, i4] := by
    match its, h4 with
    | [i1, i2, i3, i4], _ => exact ⟨i1, i2, i3, i4, rfl⟩
  obtain ⟨n1, v1, b1⟩ := i1
  obtain ⟨n2, v2, bs2⟩ := i2
  obtain ⟨n3, v3, bs3⟩ := i3
  obtain ⟨n4, v4, bs4⟩ := i4
  have hb1 : BAt Z v1 b1 := hib ⟨n1, v1, b1⟩ (by simp)
  have hb2 : BAt Z v2 bs2 := hib ⟨n2, v2, bs2⟩ (by simp)
  have hb3 : BAt Z v3 bs3 := hib ⟨n3, v3, bs3⟩ (by simp)
  have hb4 : BAt Z v4 bs4 := hib ⟨n4, v4, bs4⟩ (by simp)
  obtain ⟨a1, c1, rfl, _⟩ := hb1.2
  obtain ⟨a2, c2, rfl, _⟩ := hb2.2
  obtain ⟨a3, c3, rfl, _⟩ := hb3.2
  obtain ⟨a4, c4, rfl, _⟩ := hb4.2
  obtain ⟨rb, ro, rcc, he⟩ := hvw.some (by simp [itC])
  simp only [Value.slice.injEq] at he
  obtain ⟨rfl, _, rfl⟩ := he
  simp only [List.map_cons, List.map_nil, It.p] at hip
  subst hip
  have hbd := blobD_four hs
  have hvw2 : Vw Z (.slice (some ⟨rb, ro, none⟩) 4 rc) 4 [.int .i64 n1, .slice a1 b1.length c1, .int .i64 n2, .slice a2 bs2.length c2, .int .i64 n3, .slice a3 bs3.length c3, .int .i64 n4, .slice a4 bs4.length c4] := hvw
  have hN : (n4 ≠ 4 ∨ b1.length ≠ 32 ∨ bs4.length ≠ 32) → blobD b = none := fun h => by rw [hbd, if_pos h]
  simp only [List.length_cons, List.length_nil, Nat.zero_add, Nat.reduceAdd]
  clear hvw hib htd h4
  repeat' (first | (with_reducible intro _hh) | refine go1 ?_ | refine J_fork ?_ ?_ | refine J_gsP rfl rfl rfl rfl ?_ ?_ | refine K_condP rfl rfl ?_ ?_ | refine J_at (U := tab) 3 2 rfl rfl rfl rfl rfl rfl rfl rfl (by simp) ?_ | refine J_at (U := tab) 0 2 rfl rfl rfl rfl rfl rfl rfl rfl (by simp) ?_ | refine J_loadAt (U := tab) 0 (3 * 2 + 0) rfl rfl rfl hvw2 (Nat.add_assoc _ _ _) rfl rfl rfl ?_ | refine J_loadAt (U := tab) 0 (3 * 2 + 1) rfl rfl rfl hvw2 (Nat.add_assoc _ _ _) rfl rfl rfl ?_ | refine J_loadAt (U := tab) 0 (0 * 2 + 1) rfl rfl rfl hvw2 (Nat.add_assoc _ _ _) rfl rfl rfl ?_)
  · rw [hN (by omega)] at hE
    (refine go ?_)
    (refine K_noMarks hE ?_; apply K_returnV (U := tab) hE Tryz.func129 rfl (Ent.refl _); (repeat (first | exact ResOk.nil | apply ResOk.tmp rfl | apply ResOk.agg 0 rfl rfl rfl rfl rfl | apply ResOk.agg 1 rfl rfl rfl rfl rfl | apply ResOk.agg 2 rfl rfl rfl rfl rfl | apply ResOk.agg 3 rfl rfl rfl rfl rfl | apply ResOk.agg 4 rfl rfl rfl rfl rfl | apply ResOk.agg 5 rfl rfl rfl rfl rfl | apply ResOk.agg 6 rfl rfl rfl rfl rfl | apply ResOk.agg 7 rfl rfl rfl rfl rfl | apply ResOk.agg 8 rfl rfl rfl rfl rfl | apply ResOk.one 0 rfl rfl rfl rfl | apply ResOk.one 1 rfl rfl rfl rfl | apply ResOk.one 2 rfl rfl rfl rfl | apply ResOk.one 3 rfl rfl rfl rfl | apply ResOk.one 4 rfl rfl rfl rfl | apply ResOk.one 5 rfl rfl rfl rfl | apply ResOk.one 6 rfl rfl rfl rfl)); exact ⟨rfl, rfl⟩; exact entA)
  · rw [hN (by omega)] at hE
    (refine go ?_)
    (refine K_noMarks hE ?_; apply K_returnV (U := tab) hE Tryz.func129 rfl (Ent.refl _); (repeat (first | exact ResOk.nil | apply ResOk.tmp rfl | apply ResOk.agg 0 rfl rfl rfl rfl rfl | apply ResOk.agg 1 rfl rfl rfl rfl rfl | apply ResOk.agg 2 rfl rfl rfl rfl rfl | apply ResOk.agg 3 rfl rfl rfl rfl rfl | apply ResOk.agg 4 rfl rfl rfl rfl rfl | apply ResOk.agg 5 rfl rfl rfl rfl rfl | apply ResOk.agg 6 rfl rfl rfl rfl rfl | apply ResOk.agg 7 rfl rfl rfl rfl rfl | apply ResOk.agg 8 rfl rfl rfl rfl rfl | apply ResOk.one 0 rfl rfl rfl rfl | apply ResOk.one 1 rfl rfl rfl rfl | apply ResOk.one 2 rfl rfl rfl rfl | apply ResOk.one 3 rfl rfl rfl rfl | apply ResOk.one 4 rfl rfl rfl rfl | apply ResOk.one 5 rfl rfl rfl rfl | apply ResOk.one 6 rfl rfl rfl rfl)); exact ⟨rfl, rfl⟩; exact entA)
  · rw [hN (by omega)] at hE
    (refine go ?_)
    (refine K_noMarks hE ?_; apply K_returnV (U := tab) hE Tryz.func129 rfl (Ent.refl _); (repeat (first | exact ResOk.nil | apply ResOk.tmp rfl | apply ResOk.agg 0 rfl rfl rfl rfl rfl | apply ResOk.agg 1 rfl rfl rfl rfl rfl | apply ResOk.agg 2 rfl rfl rfl rfl rfl | apply ResOk.agg 3 rfl rfl rfl rfl rfl | apply ResOk.agg 4 rfl rfl rfl rfl rfl | apply ResOk.agg 5 rfl rfl rfl rfl rfl | apply ResOk.agg 6 rfl rfl rfl rfl rfl | apply ResOk.agg 7 rfl rfl rfl rfl rfl | apply ResOk.agg 8 rfl rfl rfl rfl rfl | apply ResOk.one 0 rfl rfl rfl rfl | apply ResOk.one 1 rfl rfl rfl rfl | apply ResOk.one 2 rfl rfl rfl rfl | apply ResOk.one 3 rfl rfl rfl rfl | apply ResOk.one 4 rfl rfl rfl rfl | apply ResOk.one 5 rfl rfl rfl rfl | apply ResOk.one 6 rfl rfl rfl rfl)); exact ⟨rfl, rfl⟩; exact entA)
  have hk4 : n4 = 4 := by omega
  have hl1 : b1.length = 32 := by omega
  have hl4 : bs4.length = 32 := by omega
  rw [if_neg (by rintro (h | h | h) <;> exact h (by assumption))] at hbd
  (refine go ?_)
  refine J_at (U := tab) 1 2 rfl rfl rfl rfl rfl rfl rfl rfl (by omega) ?_
  (refine go ?_)
  refine J_isLoad ?_
  refine J_loadAt (U := tab) 0 (1 * 2 + 1) rfl rfl rfl hvw2 (Nat.add_assoc _ _ _) rfl rfl rfl ?_
  have hm2 := tlvA_mem hs (n2, bs2) (by simp)
  have hm3 := tlvA_mem hs (n3, bs3) (by simp)
  simp only at hm2 hm3
  (first | refine J_callE rfl rfl rfl rfl (ToUint_any Z _ bs2 hb2 (by omega)) entA ?_ (fun _ _ _ _ _ => trivial) | refine J_call0E rfl rfl rfl (ToUint_any Z _ bs2 hb2 (by omega)) entA ?_ (fun _ _ _ _ _ => trivial) | (refine go ?_; first | refine J_callE rfl rfl rfl rfl (ToUint_any Z _ bs2 hb2 (by omega)) entA ?_ (fun _ _ _ _ _ => trivial) | refine J_call0E rfl rfl rfl (ToUint_any Z _ bs2 hb2 (by omega)) entA ?_ (fun _ _ _ _ _ => trivial)))
  rintro _ _ ⟨rfl, rfl⟩
  cases hu2 : toUintA bs2 with
  | none =>
    rw [hu2] at hbd
    rw [hbd] at hE
    simp only
    (refine go ?_)
    refine J_at (U := tab) 2 2 rfl rfl rfl rfl rfl rfl rfl rfl (by omega) ?_
    (refine go ?_)
    refine J_isLoad ?_
    refine J_loadAt (U := tab) 0 (2 * 2 + 1) rfl rfl rfl hvw2 (Nat.add_assoc _ _ _) rfl rfl rfl ?_
    (first | refine J_callE rfl rfl rfl rfl (ToUint_any Z _ bs3 hb3 (by omega)) entA ?_ (fun _ _ _ _ _ => trivial) | refine J_call0E rfl rfl rfl (ToUint_any Z _ bs3 hb3 (by omega)) entA ?_ (fun _ _ _ _ _ => trivial) | (refine go ?_; first | refine J_callE rfl rfl rfl rfl (ToUint_any Z _ bs3 hb3 (by omega)) entA ?_ (fun _ _ _ _ _ => trivial) | refine J_call0E rfl rfl rfl (ToUint_any Z _ bs3 hb3 (by omega)) entA ?_ (fun _ _ _ _ _ => trivial)))
    rintro _ _ ⟨rfl, rfl⟩
    cases toUintA bs3 with
    | none =>
      simp only
      repeat' (first | (with_reducible intro _hh) | refine go1 ?_ | refine J_fork ?_ ?_ | refine J_gsP rfl rfl rfl rfl ?_ ?_ | refine K_condP rfl rfl ?_ ?_)
      all_goals (first | (exfalso; omega) | skip)
      (refine K_noMarks hE ?_; apply K_returnV (U := tab) hE Tryz.func129 rfl (Ent.refl _); (repeat (first | exact ResOk.nil | apply ResOk.tmp rfl | apply ResOk.agg 0 rfl rfl rfl rfl rfl | apply ResOk.agg 1 rfl rfl rfl rfl rfl | apply ResOk.agg 2 rfl rfl rfl rfl rfl | apply ResOk.agg 3 rfl rfl rfl rfl rfl | apply ResOk.agg 4 rfl rfl rfl rfl rfl | apply ResOk.agg 5 rfl rfl rfl rfl rfl | apply ResOk.agg 6 rfl rfl rfl rfl rfl | apply ResOk.agg 7 rfl rfl rfl rfl rfl | apply ResOk.agg 8 rfl rfl rfl rfl rfl | apply ResOk.one 0 rfl rfl rfl rfl | apply ResOk.one 1 rfl rfl rfl rfl | apply ResOk.one 2 rfl rfl rfl rfl | apply ResOk.one 3 rfl rfl rfl rfl | apply ResOk.one 4 rfl rfl rfl rfl | apply ResOk.one 5 rfl rfl rfl rfl | apply ResOk.one 6 rfl rfl rfl rfl)); exact ⟨rfl, rfl⟩; exact entA)
    | some p =>
      simp only
      repeat' (first | (with_reducible intro _hh) | refine go1 ?_ | refine J_fork ?_ ?_ | refine J_gsP rfl rfl rfl rfl ?_ ?_ | refine K_condP rfl rfl ?_ ?_)
      all_goals (first | (exfalso; omega) | skip)
      (refine K_noMarks hE ?_; apply K_returnV (U := tab) hE Tryz.func129 rfl (Ent.refl _); (repeat (first | exact ResOk.nil | apply ResOk.tmp rfl | apply ResOk.agg 0 rfl rfl rfl rfl rfl | apply ResOk.agg 1 rfl rfl rfl rfl rfl | apply ResOk.agg 2 rfl rfl rfl rfl rfl | apply ResOk.agg 3 rfl rfl rfl rfl rfl | apply ResOk.agg 4 rfl rfl rfl rfl rfl | apply ResOk.agg 5 rfl rfl rfl rfl rfl | apply ResOk.agg 6 rfl rfl rfl rfl rfl | apply ResOk.agg 7 rfl rfl rfl rfl rfl | apply ResOk.agg 8 rfl rfl rfl rfl rfl | apply ResOk.one 0 rfl rfl rfl rfl | apply ResOk.one 1 rfl rfl rfl rfl | apply ResOk.one 2 rfl rfl rfl rfl | apply ResOk.one 3 rfl rfl rfl rfl | apply ResOk.one 4 rfl rfl rfl rfl | apply ResOk.one 5 rfl rfl rfl rfl | apply ResOk.one 6 rfl rfl rfl rfl)); exact ⟨rfl, rfl⟩; exact entA)
  | some s =>
    rw [hu2] at hbd
    simp only
    (refine go ?_)
    refine J_at (U := tab) 2 2 rfl rfl rfl rfl rfl rfl rfl rfl (by omega) ?_
    (refine go ?_)
    refine J_isLoad ?_
    refine J_loadAt (U := tab) 0 (2 * 2 + 1) rfl rfl rfl hvw2 (Nat.add_assoc _ _ _) rfl rfl rfl ?_
    (first | refine J_callE rfl rfl rfl rfl (ToUint_any Z _ bs3 hb3 (by omega)) entA ?_ (fun _ _ _ _ _ => trivial) | refine J_call0E rfl rfl rfl (ToUint_any Z _ bs3 hb3 (by omega)) entA ?_ (fun _ _ _ _ _ => trivial) | (refine go ?_; first | refine J_callE rfl rfl rfl rfl (ToUint_any Z _ bs3 hb3 (by omega)) entA ?_ (fun _ _ _ _ _ => trivial) | refine J_call0E rfl rfl rfl (ToUint_any Z _ bs3 hb3 (by omega)) entA ?_ (fun _ _ _ _ _ => trivial)))
    rintro _ _ ⟨rfl, rfl⟩
    cases hu3 : toUintA bs3 with
    | none =>
      rw [hu3] at hbd
      rw [hbd] at hE
      simp only
      repeat' (first | (with_reducible intro _hh) | refine go1 ?_ | refine J_fork ?_ ?_ | refine J_gsP rfl rfl rfl rfl ?_ ?_ | refine K_condP rfl rfl ?_ ?_)
      all_goals (first | (exfalso; omega) | skip)
      (refine K_noMarks hE ?_; apply K_returnV (U := tab) hE Tryz.func129 rfl (Ent.refl _); (repeat (first | exact ResOk.nil | apply ResOk.tmp rfl | apply ResOk.agg 0 rfl rfl rfl rfl rfl | apply ResOk.agg 1 rfl rfl rfl rfl rfl | apply ResOk.agg 2 rfl rfl rfl rfl rfl | apply ResOk.agg 3 rfl rfl rfl rfl rfl | apply ResOk.agg 4 rfl rfl rfl rfl rfl | apply ResOk.agg 5 rfl rfl rfl rfl rfl | apply ResOk.agg 6 rfl rfl rfl rfl rfl | apply ResOk.agg 7 rfl rfl rfl rfl rfl | apply ResOk.agg 8 rfl rfl rfl rfl rfl | apply ResOk.one 0 rfl rfl rfl rfl | apply ResOk.one 1 rfl rfl rfl rfl | apply ResOk.one 2 rfl rfl rfl rfl | apply ResOk.one 3 rfl rfl rfl rfl | apply ResOk.one 4 rfl rfl rfl rfl | apply ResOk.one 5 rfl rfl rfl rfl | apply ResOk.one 6 rfl rfl rfl rfl)); exact ⟨rfl, rfl⟩; exact entA)
    | some p =>
      rw [hu3] at hbd
      simp only at hbd ⊢
      repeat' (first | (with_reducible intro _hh) | refine go1 ?_ | refine J_fork ?_ ?_ | refine J_gsP rfl rfl rfl rfl ?_ ?_ | refine K_condP rfl rfl ?_ ?_)
      all_goals (first | (exfalso; omega) | skip)
      · rw [if_pos (by omega)] at hbd
        rw [hbd] at hE
        (refine go ?_)
        (refine K_noMarks hE ?_; apply K_returnV (U := tab) hE Tryz.func129 rfl (Ent.refl _); (repeat (first | exact ResOk.nil | apply ResOk.tmp rfl | apply ResOk.agg 0 rfl rfl rfl rfl rfl | apply ResOk.agg 1 rfl rfl rfl rfl rfl | apply ResOk.agg 2 rfl rfl rfl rfl rfl | apply ResOk.agg 3 rfl rfl rfl rfl rfl | apply ResOk.agg 4 rfl rfl rfl rfl rfl | apply ResOk.agg 5 rfl rfl rfl rfl rfl | apply ResOk.agg 6 rfl rfl rfl rfl rfl | apply ResOk.agg 7 rfl rfl rfl rfl rfl | apply ResOk.agg 8 rfl rfl rfl rfl rfl | apply ResOk.one 0 rfl rfl rfl rfl | apply ResOk.one 1 rfl rfl rfl rfl | apply ResOk.one 2 rfl rfl rfl rfl | apply ResOk.one 3 rfl rfl rfl rfl | apply ResOk.one 4 rfl rfl rfl rfl | apply ResOk.one 5 rfl rfl rfl rfl | apply ResOk.one 6 rfl rfl rfl rfl)); exact ⟨rfl, rfl⟩; exact entA)
      · rw [if_neg (by omega)] at hbd
        rw [hbd] at hE
        have hs63 : s ≤ 1048576 := by omega
        have hp63 : p ≤ 1048576 := by omega
        obtain ⟨xb1, xo1, xc1, he1⟩ := hb1.1.some (by intro h; have := congrArg List.length h; rw [bV_length, hl1] at this; cases this)
        simp only [Value.slice.injEq] at he1
        obtain ⟨rfl, _, rfl⟩ := he1
        obtain ⟨xb4, xo4, xc4, he4⟩ := hb4.1.some (by intro h; have := congrArg List.length h; rw [bV_length, hl4] at this; cases this)
        simp only [Value.slice.injEq] at he4
        obtain ⟨rfl, _, rfl⟩ := he4
        have hv1 := hb1.1
        rw [dgOf_len hl1] at hv1
        have hv4 := hb4.1
        rw [dgOf_len hl4] at hv4
        refine K_drawA (fun w => Sat G w ([Z])) (.st 0 (.st 1 (.st 2 (.st 3 (.st 4 (.st 5 (.st 6 (.st 7 (.st 8 (.st 9 (.st 10 (.st 11 (.st 12 (.st 13 (.st 14 (.st 15 (.st 16 (.act 17 (.st 18 .nil))))))))))))))))))) rfl (by kernel_rfl) (by kernel_rfl) (by kernel_rfl) (fun w hw => hw.ent entA) ?_
        (refine go ?_)
        (repeat (first | refine go1 ?_ | refine J_fork ?_ ?_ | refine J_at (U := tab) 0 2 rfl rfl rfl rfl rfl rfl rfl rfl (by omega) ?_ | refine J_at (U := tab) 3 2 rfl rfl rfl rfl rfl rfl rfl rfl (by omega) ?_ | (refine J_isLoad ?_; first | refine J_loadAtS (U := tab) 0 (0 * 2 + 1) rfl rfl rfl hvw2 (Nat.add_assoc _ _ _) rfl rfl rfl ?_ | refine J_loadAtS (U := tab) 0 (3 * 2 + 1) rfl rfl rfl hvw2 (Nat.add_assoc _ _ _) rfl rfl rfl ?_ | refine J_loadElemS (U := tab) (es := dC (dgOf b1)) 0 0 rfl rfl rfl hv1 rfl (fun j v hj => by rw [Nat.zero_add]; exact hj) rfl rfl rfl ?_ | refine J_loadElemS (U := tab) (es := dC (dgOf bs4)) 0 0 rfl rfl rfl hv4 rfl (fun j v hj => by rw [Nat.zero_add]; exact hj) rfl rfl rfl ?_) | refine J_arrayAt (U := tab) rfl rfl rfl rfl (by omega) ?_))
        refine J_isStore ?_
        refine J_store (U := tab) 2 (fun w hw => hw.ent entA) rfl rfl rfl rfl rfl rfl rfl rfl rfl ?_
        (refine go ?_)
        (refine K_noMarks hE ?_; apply K_returnV (U := tab) hE Tryz.func129 rfl (Ent.refl _); (repeat (first | exact ResOk.nil | apply ResOk.tmp rfl | apply ResOk.agg 0 rfl rfl rfl rfl rfl | apply ResOk.agg 1 rfl rfl rfl rfl rfl | apply ResOk.agg 2 rfl rfl rfl rfl rfl | apply ResOk.agg 3 rfl rfl rfl rfl rfl | apply ResOk.agg 4 rfl rfl rfl rfl rfl | apply ResOk.agg 5 rfl rfl rfl rfl rfl | apply ResOk.agg 6 rfl rfl rfl rfl rfl | apply ResOk.agg 7 rfl rfl rfl rfl rfl | apply ResOk.agg 8 rfl rfl rfl rfl rfl | apply ResOk.one 0 rfl rfl rfl rfl | apply ResOk.one 1 rfl rfl rfl rfl | apply ResOk.one 2 rfl rfl rfl rfl | apply ResOk.one 3 rfl rfl rfl rfl | apply ResOk.one 4 rfl rfl rfl rfl | apply ResOk.one 5 rfl rfl rfl rfl | apply ResOk.one 6 rfl rfl rfl rfl)); exact ⟨rfl, rfl⟩; exact entA)

theorem layersD_app : ∀ (l : List (Int × List UInt8)) (i : Nat) (x : Int × List UInt8), layersD i (l ++ [x]) = match layersD i l with
    | none => none
    | some y => match blobD x.2 with
      | none => none
      | some z => if x.1 ≠ ((i + l.length : Nat) : Int) + 1 then none else some (y ++ [z])
  | [], i, (n, b) => by
    simp only [List.nil_append, layersD, List.length_nil, Nat.add_zero]
    cases blobD b with
    | none => rfl
    | some z =>
      simp only
      split <;> simp
  | (m, c) :: l, i, (n, b) => by
    simp only [List.cons_append, layersD, layersD_app l (i + 1) (n, b), List.length_cons]
    cases blobD c with
    | none => rfl
    | some y =>
      simp only
      split
      · rfl
      · cases layersD (i + 1) l with
        | none => rfl
        | some w =>
          simp only [Option.map_some]
          cases blobD b with
          | none => rfl
          | some z =>
            simp only [show i + 1 + l.length = i + (l.length + 1) from by omega]
            split <;> simp
theorem layersD_pre : ∀ (l r : List (Int × List UInt8)) (i : Nat), layersD i l = none → layersD i (l ++ r) = none
  | [], r, i, h => by cases h
  | (n, b) :: l, r, i, h => by
    simp only [List.cons_append, layersD] at h ⊢
    cases hb : blobD b with
    | none => rfl
    | some x =>
      rw [hb] at h
      simp only at h ⊢
      split at h
      · rename_i hn; rw [if_pos hn]
      · rename_i hn
        rw [if_neg hn]
        rw [layersD_pre l r (i + 1) (by simpa using h)]; rfl
set_option maxRecDepth 20000 in
set_option maxHeartbeats 1000000 in
theorem mDecode_any (A : HP) (v : Value) (b : List UInt8) (hv : BAt A v b) (hl : b.length ≤ 1000000000) :
    Ctr Tryz.prog 86 [v] [A] (fun r H => (decB b = none ∧ (∃ e, e ≠ 0 ∧ r = .tuple #[imV (.slice none 0 0), .int .i64 e]) ∧ H = [A]) ∨
      ∃ l rv, decB b = some l ∧ r = .tuple #[imV rv, .int .i64 0] ∧ H = [slc 32 66 rv l.length (l.flatMap blC), A]) := by
  have htd := tlvDecode_any A v b hv hl
  obtain ⟨a, c, rfl, hc⟩ := hv.2
  refine Ctr.enter Tryz.func86 (by kernel_rfl) rfl Tryz.ntmps86 rfl rfl ?_
  intro G F R hE
  refine K_regionA rfl ?_
  refine J_alloc (U := tab) rfl rfl rfl (fun _ _ _ => trivial) ?_
  intro b2
  (refine go ?_)
  (first | refine J_callE rfl rfl rfl rfl (htd) entA ?_ (fun _ _ _ _ _ => trivial) | refine J_call0E rfl rfl rfl (htd) entA ?_ (fun _ _ _ _ _ => trivial) | (refine go ?_; first | refine J_callE rfl rfl rfl rfl (htd) entA ?_ (fun _ _ _ _ _ => trivial) | refine J_call0E rfl rfl rfl (htd) entA ?_ (fun _ _ _ _ _ => trivial)))
  rintro _ _ (⟨hn, rfl, rfl⟩ | ⟨xs, its, Z, rv, hs, hip, ⟨hvw, hib⟩, rfl, rfl⟩)
  · have hd : decB b = none := by unfold decB; rw [hn]
    repeat' (first | (with_reducible intro _hh) | refine go1 ?_ | refine J_fork ?_ ?_ | refine J_gsP rfl rfl rfl rfl ?_ ?_ | refine K_condP rfl rfl ?_ ?_)
    all_goals (first | (exfalso; omega) | skip)
    (refine K_noMarks hE ?_; apply K_returnV (U := tab) hE Tryz.func86 rfl (Ent.refl _); (repeat (first | exact ResOk.nil | apply ResOk.tmp rfl | apply ResOk.agg 0 rfl rfl rfl rfl rfl | apply ResOk.agg 1 rfl rfl rfl rfl rfl | apply ResOk.agg 2 rfl rfl rfl rfl rfl | apply ResOk.agg 3 rfl rfl rfl rfl rfl | apply ResOk.agg 4 rfl rfl rfl rfl rfl | apply ResOk.agg 5 rfl rfl rfl rfl rfl | apply ResOk.agg 6 rfl rfl rfl rfl rfl | apply ResOk.agg 7 rfl rfl rfl rfl rfl | apply ResOk.agg 8 rfl rfl rfl rfl rfl | apply ResOk.one 0 rfl rfl rfl rfl | apply ResOk.one 1 rfl rfl rfl rfl | apply ResOk.one 2 rfl rfl rfl rfl | apply ResOk.one 3 rfl rfl rfl rfl | apply ResOk.one 4 rfl rfl rfl rfl | apply ResOk.one 5 rfl rfl rfl rfl | apply ResOk.one 6 rfl rfl rfl rfl)); exact (.inl ⟨hd, ⟨2, by decide, rfl⟩, rfl⟩); exact entA)
  have hde : decB b = match layersD 0 xs with | some x => if imageB x = 0 then some x else none | none => none := by unfold decB; rw [hs]; rfl
  obtain ⟨ra, rc, rfl⟩ := hvw.shape
  have hxl : its.length ≤ 65536 := by
    have h1 : xs.length ≤ 65536 := by
      unfold tlvA at hs
      split at hs
      · cases hs
      · split at hs
        · cases hs
          have := tlvI_len _ b (Nat.le_refl _)
          unfold tlvI at this; omega
        · cases hs
    rw [← hip, List.length_map] at h1; exact h1
  repeat' (first | (with_reducible intro _hh) | refine go1 ?_ | refine J_fork ?_ ?_ | refine J_gsP rfl rfl rfl rfl ?_ ?_ | refine K_condP rfl rfl ?_ ?_)
  all_goals (first | (exfalso; omega) | skip)
  refine J_alloc (U := tab) rfl rfl rfl (fun _ _ _ => trivial) ?_
  intro b6
  (refine go ?_)
  refine K_ent (Ent.trans (Ent.resep [] _) (slc_lift 32 66 none _)) ?_
  refine K_loop (fun y : Nat × List Bl × Option Addr × Nat => y.1 ≤ its.length ∧ layersD 0 (xs.take y.1) = some y.2.1 ∧ y.2.1.length = y.1) (fun y => its.length - y.1)
    (fun y => [(2, ptr b2), (6, ptr b6), (20, .slice ra its.length rc), (21, .int .i64 (its.length : Int)), (22, .int .i64 (y.1 : Int))])
    (fun y => pts b6 (cl [.slice y.2.2.1 y.2.1.length y.2.2.2] 55) :: slc 32 66 (.slice y.2.2.1 y.2.1.length y.2.2.2) y.2.1.length (y.2.1.flatMap blC) :: Z :: A :: pts b2 (cl [.slice none 0 0] 55) :: F) (0, [], none, 0) ⟨Nat.zero_le _, rfl, rfl⟩ rfl (by repeat (first | exact keep_nil | refine keep_cons rfl ?_)) entA ?_
  rintro ⟨i, acc, xa, xc⟩ ⟨hi, hacc, hal⟩ ih
  simp only at hi hacc hal
  dsimp only
  (refine go ?_)
  refine K_condP rfl rfl ?_ ?_
  · intro hlt
    have hi' : i < its.length := by omega
    obtain ⟨it, hit⟩ : ∃ x, its[i]? = some x := ⟨its[i], by simp⟩
    have hxi : xs[i]? = some (it.n, it.b) := by rw [← hip, List.getElem?_map, hit]; rfl
    have hbit := hib it (List.mem_of_getElem? hit)
    have hitm := tlvA_mem hs _ (List.mem_of_getElem? hxi)
    have htk : xs.take (i + 1) = xs.take i ++ [(it.n, it.b)] := by rw [List.take_add_one, hxi]; rfl
    have hap := layersD_app (xs.take i) 0 (it.n, it.b)
    have htl : (xs.take i).length = i := by rw [List.length_take, ← hip, List.length_map]; omega
    rw [← htk, hacc, htl, Nat.zero_add] at hap
    simp only at hap hitm
    have hbad : layersD 0 (xs.take (i + 1)) = none → decB b = none := fun h => by
      have := layersD_pre _ (xs.drop (i + 1)) 0 h
      rw [List.take_append_drop] at this
      rw [hde, this]
    obtain ⟨rb, ro, rcc, he⟩ := hvw.some (by rw [← List.length_pos_iff, chunk_len itC_len]; omega)
    simp only [Value.slice.injEq] at he
    obtain ⟨rfl, _, rfl⟩ := he
    obtain ⟨xn, xv, xb⟩ := it
    simp only at hbit hap hitm
    obtain ⟨va, vc, rfl, _⟩ := hbit.2
    (refine go ?_)
    refine J_at (U := tab) i 2 rfl rfl rfl rfl rfl rfl rfl rfl hi' ?_
    refine J_isLoad ?_
    refine J_loadElem (U := tab) (es := itC ⟨xn, .slice va xb.length vc, xb⟩) 2 (i * 2) rfl rfl rfl hvw rfl (fun j v hj => ?_) rfl rfl rfl ?_
    · rw [chunk_get itC_len hit j (by rcases Nat.lt_or_ge j 2 with h | h; exact h; rw [List.getElem?_eq_none (by rw [itC_len]; exact h)] at hj; cases hj)]; exact hj
    refine J_alloc (U := tab) rfl rfl rfl (fun _ _ _ => trivial) ?_
    intro b8
    (refine go ?_)
    (first | refine J_callE rfl rfl rfl rfl (mblob_any Z _ xb hbit (by omega)) entA ?_ (fun _ _ _ _ _ => trivial) | refine J_call0E rfl rfl rfl (mblob_any Z _ xb hbit (by omega)) entA ?_ (fun _ _ _ _ _ => trivial) | (refine go ?_; first | refine J_callE rfl rfl rfl rfl (mblob_any Z _ xb hbit (by omega)) entA ?_ (fun _ _ _ _ _ => trivial) | refine J_call0E rfl rfl rfl (mblob_any Z _ xb hbit (by omega)) entA ?_ (fun _ _ _ _ _ => trivial)))
    rintro _ _ ⟨rfl, rfl⟩
    cases hbd : blobD xb with
    | none =>
      rw [hbd] at hap
      have hdn := hbad hap
      simp only [blobR]
      (refine go ?_)
      refine J_alloc (U := tab) rfl rfl rfl (fun _ _ _ => trivial) ?_
      intro b9
      (refine go ?_)
      (refine J_isStore ?_; first | refine J_store (U := tab) 0 (fun _ _ => trivial) rfl rfl rfl rfl rfl rfl rfl rfl rfl ?_ | refine J_store (U := tab) 1 (fun _ _ => trivial) rfl rfl rfl rfl rfl rfl rfl rfl rfl ?_ | refine J_store (U := tab) 2 (fun _ _ => trivial) rfl rfl rfl rfl rfl rfl rfl rfl rfl ?_ | refine J_store (U := tab) 3 (fun _ _ => trivial) rfl rfl rfl rfl rfl rfl rfl rfl rfl ?_ | refine J_store (U := tab) 4 (fun _ _ => trivial) rfl rfl rfl rfl rfl rfl rfl rfl rfl ?_ | refine J_store (U := tab) 5 (fun _ _ => trivial) rfl rfl rfl rfl rfl rfl rfl rfl rfl ?_ | refine J_store (U := tab) 6 (fun _ _ => trivial) rfl rfl rfl rfl rfl rfl rfl rfl rfl ?_ | refine J_store (U := tab) 7 (fun _ _ => trivial) rfl rfl rfl rfl rfl rfl rfl rfl rfl ?_ | refine J_store (U := tab) 8 (fun _ _ => trivial) rfl rfl rfl rfl rfl rfl rfl rfl rfl ?_)
      (refine go ?_)
      (refine K_noMarks hE ?_; apply K_returnV (U := tab) hE Tryz.func86 rfl (Ent.refl _); (repeat (first | exact ResOk.nil | apply ResOk.tmp rfl | apply ResOk.agg 0 rfl rfl rfl rfl rfl | apply ResOk.agg 1 rfl rfl rfl rfl rfl | apply ResOk.agg 2 rfl rfl rfl rfl rfl | apply ResOk.agg 3 rfl rfl rfl rfl rfl | apply ResOk.agg 4 rfl rfl rfl rfl rfl | apply ResOk.agg 5 rfl rfl rfl rfl rfl | apply ResOk.agg 6 rfl rfl rfl rfl rfl | apply ResOk.agg 7 rfl rfl rfl rfl rfl | apply ResOk.agg 8 rfl rfl rfl rfl rfl | apply ResOk.one 0 rfl rfl rfl rfl | apply ResOk.one 1 rfl rfl rfl rfl | apply ResOk.one 2 rfl rfl rfl rfl | apply ResOk.one 3 rfl rfl rfl rfl | apply ResOk.one 4 rfl rfl rfl rfl | apply ResOk.one 5 rfl rfl rfl rfl | apply ResOk.one 6 rfl rfl rfl rfl)); exact (.inl ⟨hdn, ⟨2, by decide, rfl⟩, rfl⟩); exact entA)
    | some z =>
      rw [hbd] at hap
      simp only [blobR] at hap ⊢
      unfold blV
      (refine go ?_)
      refine J_alloc (U := tab) rfl rfl rfl (fun _ _ _ => trivial) ?_
      intro b9
      repeat' (first | (with_reducible intro _hh) | refine go1 ?_ | refine J_fork ?_ ?_ | refine J_gsP rfl rfl rfl rfl ?_ ?_ | refine K_condP rfl rfl ?_ ?_)
      · rw [if_pos (by omega)] at hap
        have hdn := hbad hap
        (refine J_isStore ?_; first | refine J_store (U := tab) 0 (fun _ _ => trivial) rfl rfl rfl rfl rfl rfl rfl rfl rfl ?_ | refine J_store (U := tab) 1 (fun _ _ => trivial) rfl rfl rfl rfl rfl rfl rfl rfl rfl ?_ | refine J_store (U := tab) 2 (fun _ _ => trivial) rfl rfl rfl rfl rfl rfl rfl rfl rfl ?_ | refine J_store (U := tab) 3 (fun _ _ => trivial) rfl rfl rfl rfl rfl rfl rfl rfl rfl ?_ | refine J_store (U := tab) 4 (fun _ _ => trivial) rfl rfl rfl rfl rfl rfl rfl rfl rfl ?_ | refine J_store (U := tab) 5 (fun _ _ => trivial) rfl rfl rfl rfl rfl rfl rfl rfl rfl ?_ | refine J_store (U := tab) 6 (fun _ _ => trivial) rfl rfl rfl rfl rfl rfl rfl rfl rfl ?_ | refine J_store (U := tab) 7 (fun _ _ => trivial) rfl rfl rfl rfl rfl rfl rfl rfl rfl ?_ | refine J_store (U := tab) 8 (fun _ _ => trivial) rfl rfl rfl rfl rfl rfl rfl rfl rfl ?_)
        (refine go ?_)
        (refine K_noMarks hE ?_; apply K_returnV (U := tab) hE Tryz.func86 rfl (Ent.refl _); (repeat (first | exact ResOk.nil | apply ResOk.tmp rfl | apply ResOk.agg 0 rfl rfl rfl rfl rfl | apply ResOk.agg 1 rfl rfl rfl rfl rfl | apply ResOk.agg 2 rfl rfl rfl rfl rfl | apply ResOk.agg 3 rfl rfl rfl rfl rfl | apply ResOk.agg 4 rfl rfl rfl rfl rfl | apply ResOk.agg 5 rfl rfl rfl rfl rfl | apply ResOk.agg 6 rfl rfl rfl rfl rfl | apply ResOk.agg 7 rfl rfl rfl rfl rfl | apply ResOk.agg 8 rfl rfl rfl rfl rfl | apply ResOk.one 0 rfl rfl rfl rfl | apply ResOk.one 1 rfl rfl rfl rfl | apply ResOk.one 2 rfl rfl rfl rfl | apply ResOk.one 3 rfl rfl rfl rfl | apply ResOk.one 4 rfl rfl rfl rfl | apply ResOk.one 5 rfl rfl rfl rfl | apply ResOk.one 6 rfl rfl rfl rfl)); exact (.inl ⟨hdn, ⟨2, by decide, rfl⟩, rfl⟩); exact entA)
      · rw [if_neg (by omega)] at hap
        refine J_loadArr (U := tab) (l := blC z) 0 rfl rfl rfl rfl rfl rfl ?_
        refine J_buildSlice1 (U := tab) (cs := blC z) rfl rfl rfl rfl rfl rfl rfl rfl rfl (fun _ _ _ => trivial) ?_
        intro row
        (refine go ?_)
        refine J_append (U := tab) (mm := 1) (news := blC z) 5 0 rfl rfl rfl rfl rfl rfl rfl rfl rfl rfl rfl rfl (Vw.pts rfl) rfl (by have := blC_one [z]; simpa using this) (by omega) (by show (_ + _) * 80 ≤ _; omega) (fun _ => rfl) (fun _ _ _ => trivial) ?_
        intro v1
        rw [show acc.flatMap blC ++ blC z = (acc ++ [z]).flatMap blC from by simp, show acc.length + 1 = (acc ++ [z]).length from by simp]
        (first | refine J_shape 5 rfl ?_ | refine K_shape 5 rfl ?_)
        rintro ja jc rfl
        (refine go ?_)
        refine J_isStore ?_
        refine J_store (U := tab) 4 (fun _ _ => trivial) rfl rfl rfl rfl rfl rfl rfl rfl rfl ?_
        (refine go ?_)
        refine K_again ih (i + 1, acc ++ [z], ja, jc) rfl ⟨by simp only; omega, hap, by simp only [List.length_append, List.length_singleton]; omega⟩ (by simp only; omega) (by repeat (first | exact keep_nil | refine keep_cons rfl ?_)) entA
  · intro hge
    have hie : i = its.length := by omega
    have hall : xs.take i = xs := by rw [List.take_of_length_le]; rw [← hip, List.length_map]; omega
    rw [hall] at hacc
    rw [hacc] at hde
    simp only at hde
    clear ih
    refine K_slcVw 1 rfl ?_
    intro hva
    (refine go ?_)
    refine J_loadArr (U := tab) (l := [.slice xa acc.length xc]) 0 rfl rfl rfl rfl rfl rfl ?_
    (first | refine J_callE rfl rfl rfl rfl (Image_any _ _ acc hva (by omega)) entA ?_ (fun _ _ _ _ _ => trivial) | refine J_call0E rfl rfl rfl (Image_any _ _ acc hva (by omega)) entA ?_ (fun _ _ _ _ _ => trivial) | (refine go ?_; first | refine J_callE rfl rfl rfl rfl (Image_any _ _ acc hva (by omega)) entA ?_ (fun _ _ _ _ _ => trivial) | refine J_call0E rfl rfl rfl (Image_any _ _ acc hva (by omega)) entA ?_ (fun _ _ _ _ _ => trivial)))
    rintro _ _ ⟨rfl, rfl⟩
    repeat' (first | (with_reducible intro _hh) | refine go1 ?_ | refine J_fork ?_ ?_ | refine J_gsP rfl rfl rfl rfl ?_ ?_ | refine K_condP rfl rfl ?_ ?_)
    · rw [if_neg (by omega)] at hde
      (refine J_isStore ?_; first | refine J_store (U := tab) 0 (fun _ _ => trivial) rfl rfl rfl rfl rfl rfl rfl rfl rfl ?_ | refine J_store (U := tab) 1 (fun _ _ => trivial) rfl rfl rfl rfl rfl rfl rfl rfl rfl ?_ | refine J_store (U := tab) 2 (fun _ _ => trivial) rfl rfl rfl rfl rfl rfl rfl rfl rfl ?_ | refine J_store (U := tab) 3 (fun _ _ => trivial) rfl rfl rfl rfl rfl rfl rfl rfl rfl ?_ | refine J_store (U := tab) 4 (fun _ _ => trivial) rfl rfl rfl rfl rfl rfl rfl rfl rfl ?_ | refine J_store (U := tab) 5 (fun _ _ => trivial) rfl rfl rfl rfl rfl rfl rfl rfl rfl ?_ | refine J_store (U := tab) 6 (fun _ _ => trivial) rfl rfl rfl rfl rfl rfl rfl rfl rfl ?_ | refine J_store (U := tab) 7 (fun _ _ => trivial) rfl rfl rfl rfl rfl rfl rfl rfl rfl ?_ | refine J_store (U := tab) 8 (fun _ _ => trivial) rfl rfl rfl rfl rfl rfl rfl rfl rfl ?_)
      (refine go ?_)
      (refine K_noMarks hE ?_; apply K_returnV (U := tab) hE Tryz.func86 rfl (Ent.refl _); (repeat (first | exact ResOk.nil | apply ResOk.tmp rfl | apply ResOk.agg 0 rfl rfl rfl rfl rfl | apply ResOk.agg 1 rfl rfl rfl rfl rfl | apply ResOk.agg 2 rfl rfl rfl rfl rfl | apply ResOk.agg 3 rfl rfl rfl rfl rfl | apply ResOk.agg 4 rfl rfl rfl rfl rfl | apply ResOk.agg 5 rfl rfl rfl rfl rfl | apply ResOk.agg 6 rfl rfl rfl rfl rfl | apply ResOk.agg 7 rfl rfl rfl rfl rfl | apply ResOk.agg 8 rfl rfl rfl rfl rfl | apply ResOk.one 0 rfl rfl rfl rfl | apply ResOk.one 1 rfl rfl rfl rfl | apply ResOk.one 2 rfl rfl rfl rfl | apply ResOk.one 3 rfl rfl rfl rfl | apply ResOk.one 4 rfl rfl rfl rfl | apply ResOk.one 5 rfl rfl rfl rfl | apply ResOk.one 6 rfl rfl rfl rfl)); exact (.inl ⟨hde, ⟨2, by decide, rfl⟩, rfl⟩); exact entA)
    · rw [if_pos (by omega)] at hde
      refine J_loadArr (U := tab) (l := [.slice xa acc.length xc]) 1 rfl rfl rfl rfl rfl rfl ?_
      (refine go ?_)
      refine J_isStore ?_
      refine J_store (U := tab) 4 (fun _ _ => trivial) rfl rfl rfl rfl rfl rfl rfl rfl rfl ?_
      (refine go ?_)
      (refine K_noMarks hE ?_; apply K_returnV (U := tab) hE Tryz.func86 rfl (Ent.refl _); (repeat (first | exact ResOk.nil | apply ResOk.tmp rfl | apply ResOk.agg 0 rfl rfl rfl rfl rfl | apply ResOk.agg 1 rfl rfl rfl rfl rfl | apply ResOk.agg 2 rfl rfl rfl rfl rfl | apply ResOk.agg 3 rfl rfl rfl rfl rfl | apply ResOk.agg 4 rfl rfl rfl rfl rfl | apply ResOk.agg 5 rfl rfl rfl rfl rfl | apply ResOk.agg 6 rfl rfl rfl rfl rfl | apply ResOk.agg 7 rfl rfl rfl rfl rfl | apply ResOk.agg 8 rfl rfl rfl rfl rfl | apply ResOk.one 0 rfl rfl rfl rfl | apply ResOk.one 1 rfl rfl rfl rfl | apply ResOk.one 2 rfl rfl rfl rfl | apply ResOk.one 3 rfl rfl rfl rfl | apply ResOk.one 4 rfl rfl rfl rfl | apply ResOk.one 5 rfl rfl rfl rfl | apply ResOk.one 6 rfl rfl rfl rfl)); exact (.inr ⟨acc, _, hde, rfl, rfl⟩); exact entA)
end Go.Proofs.YtpecmnaikjbanaaGreatDoor

/- Engine, part Z: from a contract that leaves all old memory to the given row's walk; arguments as views. Nothing here names a program. -/
set_option linter.unusedSimpArgs false
set_option linter.unusedVariables false
namespace Go.SL
open Go.RowKit

/-- All memory as it is. -/
def old (W : World) : HP := fun h => ∀ b, h b = W.heap[b]?
def glob (W : World) : Glob := { tape := W.tape, os := W.os, output := W.output }
theorem Sat_old (W : World) : Sat (glob W) W [old W] := ⟨⟨rfl, Nat.zero_le _⟩, rfl, rfl, fun b => W.heap[b]?, fun _ _ h => h, Sep_one' fun _ => rfl⟩
theorem below_of_sat {W W' : World} (h : Sat (glob W) W' [old W]) : Below W.heap.size W W' := by
  obtain ⟨h1, h2, h3, h0, hw, hs⟩ := h
  have ho := Sep_one hs
  have hb : ∀ k, k < W.heap.size → W'.heap[k]? = W.heap[k]? := fun k hk => by
    have e : W.heap[k]? = some W.heap[k] := by simp [hk]
    rw [e]
    exact hw k _ (by rw [ho k, e])
  refine ⟨h2, h1.1, h3, ?_, hb⟩
  rcases Nat.eq_zero_or_pos W.heap.size with h0 | h0
  · omega
  · have := hb (W.heap.size - 1) (by omega)
    have e : W.heap[W.heap.size - 1]? = some W.heap[W.heap.size - 1] := by simp [h0]
    rw [e] at this
    have := (Array.getElem?_eq_some_iff.1 this).1
    omega
theorem row_walk {P : Program} {f : FuncId} {args : List Value} {W : World} (c : Ctr P f args [old W] (fun v H => v = .bool true ∧ H = [old W])) :
    Calls P f args.toArray W fun e W' => e = .returned (.bool true) ∧ Below W.heap.size W W' :=
  (c.2 (glob W) W [] (Sat_old W)).mono fun e W' h => by
    obtain ⟨v, H, rfl, ⟨rfl, rfl⟩, hs⟩ := h
    exact ⟨rfl, below_of_sat hs⟩

theorem hcell_of_cell {W : World} {h : Hp} {b off : Nat} {v : Value} (ho : old W h) (hc : W.cell? ⟨b, off, none⟩ = some v) : hcell h b off = some v := by
  unfold hcell
  rw [ho b]
  unfold World.cell? at hc
  simp only at hc
  split at hc
  · rename_i c _ _ he
    rw [he]
    simpa using hc
  · cases hc
/-- A row of bytes that came in. -/
theorem bytes_view {W : World} {a : Addr} {len cap : Nat} {zs : List Int} (hl : len ≤ zs.length) (hcell : ∀ i, i < zs.length → W.cell? (a.add i) = some (.int .u8 (zs.getD i 0))) (hwf : ∀ n ∈ zs, (Lit.int .u8 n).wf = true) :
    ∃ bs : List UInt8, bs.length = len ∧ Vw (old W) (.slice (some a) len cap) len (bV bs) := by
  refine ⟨(zs.take len).map fun z => UInt8.ofNat z.toNat, by simp; omega, some a, cap, rfl, ?_⟩
  rcases Nat.eq_zero_or_pos len with h0 | h0
  · left; subst h0; simp [bV]
  · right
    obtain ⟨b, o, spot⟩ := a
    have hsp : spot = none := by simpa [Addr.add] using World.cell?_spot (hcell 0 (by omega))
    subst hsp
    refine ⟨b, o, rfl, fun h ho j c hj => ?_⟩
    have hjl : j < len := by
      rcases Nat.lt_or_ge j len with h | h
      · exact h
      · rw [List.getElem?_eq_none (by simp [bV]; omega)] at hj; cases hj
    have h1 := hcell j (by omega)
    rw [Addr.add_eq] at h1
    have h2 := hcell_of_cell ho h1
    rw [h2]
    have hm : zs[j]'(by omega) ∈ zs := List.getElem_mem _
    have hw := hwf _ hm
    have hb : 0 ≤ zs[j]'(by omega) ∧ zs[j]'(by omega) < 256 := by
      simp only [Lit.wf, Bool.and_eq_true, decide_eq_true_eq] at hw
      have e1 : IntKind.u8.min = 0 := by decide
      have e2 : IntKind.u8.max = 255 := by decide
      omega
    simp only [bV, List.map_map, List.getElem?_map, List.getElem?_take, hjl, if_true] at hj
    rw [List.getElem?_eq_getElem (by omega)] at hj
    simp only [Option.map_some, Option.some.injEq, Function.comp] at hj
    rw [← hj, List.getD_eq_getElem?_getD, List.getElem?_eq_getElem (by omega)]
    simp only [Option.getD_some, u8, UInt8.toNat_ofNat', Option.some.injEq]
    congr 1
    omega
theorem nil_view (W : World) : Vw (old W) (.slice none 0 0) 0 (bV []) := ⟨none, 0, rfl, .inl rfl⟩
theorem i64_range {z : Int} (h : (Lit.int .i64 z).wf = true) : -9223372036854775808 ≤ z ∧ z ≤ 9223372036854775807 := by
  simp only [Lit.wf, Bool.and_eq_true, decide_eq_true_eq] at h
  have e1 : IntKind.i64.min = -9223372036854775808 := by decide
  have e2 : IntKind.i64.max = 9223372036854775807 := by decide
  omega
end Go.SL

/- Engine, part Vi: the library's sort at numbers, by the shelf's contracts. Nothing here names a program. -/
set_option linter.unusedSimpArgs false
set_option linter.unusedVariables false
set_option linter.unusedSectionVars false
namespace Go.SL
open Go.Proofs Go.Shelf Go.RowKit Go.Lib Go.Sort
theorem Sat.grown {G : Glob} {w : World} {H : List HP} (hs : Sat G w H) (os : Array Obj) : Sat G (Sort.grow w os) H := by
  obtain ⟨a, b, c, h, hw, hh⟩ := hs
  refine ⟨a, b, c, h, fun x o e => ?_, hh⟩
  have h1 := hw x o e
  obtain ⟨h2, -⟩ := Array.getElem?_eq_some_iff.1 h1
  show (w.heap ++ os)[x]? = some o
  rw [Array.getElem?_append_left h2]
  exact h1
theorem Sat.ahead {G : Glob} {w : World} {H : List HP} (hs : Sat G w H) (n : Nat) : Sat G (Sort.ahead w n) H := hs.draw _ (Nat.le_add_right _ _)
theorem Sat.mapB {G : Glob} {w : World} {H : List HP} {b : Nat} {l l' : List Value} {e : TypeId} (hs : Sat G w (pts b (cl l e) :: H)) (f : Array Value → Array Value) (hf : f l.toArray = l'.toArray) : Sat G (Sort.mapBlock w b f) (pts b (cl l' e) :: H) := by
  have hb := hs.get (i := 0) rfl
  obtain ⟨hlt, hb2⟩ := Array.getElem?_eq_some_iff.1 hb
  have hm : w.heap.modify b (Sort.onCells f) = w.heap.setIfInBounds b (cl l' e) := by
    apply Array.ext_getElem?
    intro i
    rw [Array.getElem?_modify, Array.getElem?_setIfInBounds]
    by_cases h : b = i
    · subst h
      rw [if_pos rfl, if_pos rfl, if_pos hlt, hb]
      simp only [Option.map_some]
      unfold cl Sort.onCells
      simp only [hf]
    · rw [if_neg h, if_neg h]
  unfold Sort.mapBlock
  rw [hm]
  exact hs.set0
/-- Where all that was stands, the world has but grown. -/
theorem grow_of_old {W W' : World} (h : Sat { tape := W.tape, os := W.os, output := W.output, lo := W.drawn } W' [old W]) : ∃ q os', W' = Sort.grow (W.drewN q) os' := by
  obtain ⟨⟨h1, h2⟩, h3, h4, h0, hw, hs⟩ := h
  have ho := Sep_one hs
  have hb : ∀ k, k < W.heap.size → W'.heap[k]? = W.heap[k]? := fun k hk => by
    have e : W.heap[k]? = some W.heap[k] := by simp [hk]
    rw [e]
    exact hw k _ (by rw [ho k, e])
  have hle : W.heap.size ≤ W'.heap.size := by
    rcases Nat.eq_zero_or_pos W.heap.size with h0 | h0
    · omega
    · have := hb (W.heap.size - 1) (by omega)
      have e : W.heap[W.heap.size - 1]? = some W.heap[W.heap.size - 1] := by simp [h0]
      rw [e] at this
      have := (Array.getElem?_eq_some_iff.1 this).1
      omega
  refine ⟨W'.drawn - W.drawn, W'.heap.extract W.heap.size W'.heap.size, ?_⟩
  have hheap : W'.heap = W.heap ++ W'.heap.extract W.heap.size W'.heap.size := by
    apply Array.ext_getElem?
    intro i
    rw [Array.getElem?_append]
    split
    · rename_i hi; exact hb i hi
    · rename_i hi
      rw [Array.getElem?_extract]
      split
      · rename_i h; congr 1; omega
      · rename_i h; rw [Array.getElem?_eq_none (by omega)]
  have hd : W'.drawn = W.drawn + (W'.drawn - W.drawn) := by simp only at h2; omega
  cases W' with
  | mk hp tp dr os out =>
    simp only at h1 h2 h3 h4 hheap hd
    subst h1 h3 h4
    unfold Sort.grow World.drewN
    simp only
    rw [← hd, ← hheap]
variable {P : Program} {ρ : Ren} {α : Type} [Inhabited α]
theorem putCells_mid (pre cs cs' junk : List Value) (hl : cs'.length = cs.length) : Sort.putCells id pre.length cs'.toArray (pre ++ cs ++ junk).toArray = (pre ++ cs' ++ junk).toArray := by
  apply Array.ext_getElem?
  intro i
  unfold Sort.putCells
  rw [Array.getElem?_mapIdx]
  simp only [List.getElem?_toArray, id, List.size_toArray]
  rcases Nat.lt_or_ge i pre.length with h | h
  · rw [List.append_assoc, List.append_assoc, List.getElem?_append_left h, List.getElem?_append_left h]
    cases pre[i]? with
    | none => rfl
    | some x => simp only [Option.map_some]; rw [if_neg (by omega)]
  · rw [List.append_assoc, List.append_assoc, List.getElem?_append_right h, List.getElem?_append_right h]
    rcases Nat.lt_or_ge (i - pre.length) cs'.length with h2 | h2
    · rw [List.getElem?_append_left (by omega), List.getElem?_append_left h2, List.getElem?_eq_getElem (by omega), List.getElem?_eq_getElem h2]
      simp only [Option.map_some]
      rw [if_pos ⟨h, by omega⟩, getElem!_pos _ _ (by simpa using h2)]
      simp
    · rw [List.getElem?_append_right (by omega), List.getElem?_append_right h2, hl]
      cases junk[i - pre.length - cs.length]? with
      | none => rfl
      | some x => simp only [Option.map_some]; rw [if_neg (by omega)]
theorem holds_mid {w : World} {b : Nat} {e : TypeId} {pre cs junk : List Value} (hb : w.heap[b]? = some (cl (pre ++ cs ++ junk) e)) : Sort.Holds id w b pre.length cs.toArray := by
  intro j hj
  simp only [List.size_toArray] at hj
  constructor
  · unfold World.cell?
    simp only [hb, cl, Option.isSome_none, Bool.false_eq_true, if_false, List.getElem?_toArray]
    rw [List.append_assoc, List.getElem?_append_right (by omega), Nat.add_sub_cancel_left, List.getElem?_append_left hj, getElem!_pos _ _ (by simpa using hj), List.getElem?_eq_getElem hj]
    simp
  · unfold World.frozen?
    simp only [hb, cl]
    simp

end Go.SL

/- Engine, part V2: the library's sort at strings. Nothing here names a program. -/
set_option linter.unusedSimpArgs false
set_option linter.unusedVariables false
set_option linter.unusedSectionVars false
namespace Go.SL
open Go.Proofs Go.Shelf Go.RowKit Go.Lib Go.Sort
variable {P : Program} {ρ : Ren}
theorem sortStr_ctr (L : SlLaysN.n54 P ρ) (e : TypeId) (v : Value) (l : List (List UInt8)) (hen : P.funcs[ρ.f 54]?.map callable = some true) (hsz : l.length < 4611686018427387904) :
    Ctr P (ρ.f 54) [v] [slc e 1 v l.length (l.map encStr)] (fun r H => r = .tuple #[] ∧ H = [slc e 1 v l.length ((l.mergeSort fun x y => decide (x ≤ y)).map encStr)]) := by
  refine ⟨hen, fun G w F hs => ?_⟩
  obtain ⟨t, o, u, hp, hpw, hA, hB, ⟨hl, hcase⟩, hBB, hd, he⟩ := hs
  rcases hcase with ⟨a0, rfl, hn, hemp⟩ | ⟨b, oo, cap, pre, junk, rfl, hpre, hn, hcap, hpt⟩
  · have hl0 : l = [] := List.eq_nil_of_length_eq_zero hn
    subst hl0
    refine (AnyG.slices_Sort_string_none L a0 0 w).mono ?_
    rintro e' w' ⟨rfl, rfl⟩
    exact ⟨_, _, rfl, ⟨rfl, rfl⟩, t, o, u, hp, hpw, hA, hB, ⟨by simp, .inl ⟨a0, rfl, rfl, hemp⟩⟩, hBB, hd, he⟩
  · have hs1 : Sat G w (pts b (cl (pre ++ l.map encStr ++ junk) e) :: F) := ⟨t, o, u, hp, hpw, hA, hB, hpt, hBB, hd, he⟩
    have hb := hs1.get (i := 0) rfl
    have hlt := hs1.lt (i := 0) rfl
    subst hpre
    have hH : Sort.Holds encStr w b pre.length l.toArray := by
      have h0 := holds_mid hb
      intro j hj
      have := h0 j (by simpa using hj)
      simp only [List.size_toArray] at hj
      rw [getElem!_pos (l.map encStr).toArray j (by simpa using hj)] at this
      rw [getElem!_pos l.toArray j (by simpa using hj)]
      simpa using this
    have hS := AnyG.slices_Sort_string L b pre.length cap l w hH hlt hsz
    refine hS.mono ?_
    rintro e' w' ⟨rfl, n, os, rfl⟩
    refine ⟨_, _, rfl, ⟨rfl, rfl⟩, ?_⟩
    have hml : (l.mergeSort fun x y => decide (x ≤ y)).length = l.length := List.length_mergeSort _
    have h3 := (hs1.ahead n).mapB (Sort.putCells encStr pre.length (l.mergeSort fun x y => decide (x ≤ y)).toArray) (l' := pre ++ (l.mergeSort fun x y => decide (x ≤ y)).map encStr ++ junk) (by
      refine Eq.trans ?_ (putCells_mid pre (l.map encStr) ((l.mergeSort fun x y => decide (x ≤ y)).map encStr) junk (by rw [List.length_map, List.length_map, hml]))
      unfold Sort.putCells
      congr 1
      funext i x
      simp only [List.size_toArray, List.length_map, id]
      split
      · rename_i h
        rw [getElem!_pos (List.map encStr _).toArray (i - pre.length) (by simp; omega), getElem!_pos (l.mergeSort fun x y => decide (x ≤ y)).toArray (i - pre.length) (by simp; omega)]
        simp
      · rfl)
    have h4 := h3.grown os
    refine h4.ent ?_
    exact slc_closeN rfl hn (by rw [List.length_map] at hcap ⊢; rw [hml]; exact hcap) (by rw [List.length_map, hml, Nat.mul_one]) F

end Go.SL

/- The shelf's contracts laid at this seat (numbers as the kit's own command finds them). -/
namespace Go.Proofs.YtpecmnaikjbanaaGreatDoor
open Go Go.Shelf
def sortS_ren : Go.Shelf.Ren := ⟨fun | 54 => 126 | 64 => 150 | 65 => 153 | 78 => 173 | 79 => 174 | 80 => 176 | 81 => 177 | 82 => 178 | 83 => 179 | 84 => 180 | 85 => 181 | 61 => 182 | 86 => 183 | 87 => 184 | 93 => 200 | 89 => 196 | 90 => 197 | 94 => 201 | 95 => 202 | 69 => 203 | 97 => 206 | n => n, fun | 25 => 66 | 26 => 9 | 3 => 3 | 51 => 120 | 0 => 0 | 67 => 129 | 69 => 128 | 4 => 4 | 61 => 201 | 60 => 200 | 44 => 205 | 5 => 5 | 9 => 9 | 75 => 223 | 79 => 227 | 83 => 232 | 84 => 233 | n => n, fun | n => n⟩
theorem sortS : Go.Proofs.SlLaysN.n54 Tryz.prog sortS_ren := {
  mixed := by kernel_rfl,
  f54 := ⟨Tryz.f126.name, by decide, Tryz.func126.trans (congrArg some (by kernel_rfl))⟩,
  f61 := ⟨Tryz.f182.name, by decide, Tryz.func182.trans (congrArg some (by kernel_rfl))⟩,
  f64 := Tryz.func150.trans (congrArg some (by kernel_rfl)),
  f65 := ⟨Tryz.f153.name, by decide, Tryz.func153.trans (congrArg some (by kernel_rfl))⟩,
  f69 := ⟨Tryz.f203.name, by decide, Tryz.func203.trans (congrArg some (by kernel_rfl))⟩,
  f78 := Tryz.func173.trans (congrArg some (by kernel_rfl)),
  f79 := Tryz.func174.trans (congrArg some (by kernel_rfl)),
  f80 := ⟨Tryz.f176.name, by decide, Tryz.func176.trans (congrArg some (by kernel_rfl))⟩,
  f81 := ⟨Tryz.f177.name, by decide, Tryz.func177.trans (congrArg some (by kernel_rfl))⟩,
  f82 := ⟨Tryz.f178.name, by decide, Tryz.func178.trans (congrArg some (by kernel_rfl))⟩,
  f83 := ⟨Tryz.f179.name, by decide, Tryz.func179.trans (congrArg some (by kernel_rfl))⟩,
  f84 := ⟨Tryz.f180.name, by decide, Tryz.func180.trans (congrArg some (by kernel_rfl))⟩,
  f85 := ⟨Tryz.f181.name, by decide, Tryz.func181.trans (congrArg some (by kernel_rfl))⟩,
  f86 := ⟨Tryz.f183.name, by decide, Tryz.func183.trans (congrArg some (by kernel_rfl))⟩,
  f87 := ⟨Tryz.f184.name, by decide, Tryz.func184.trans (congrArg some (by kernel_rfl))⟩,
  f89 := Tryz.func196.trans (congrArg some (by kernel_rfl)),
  f90 := Tryz.func197.trans (congrArg some (by kernel_rfl)),
  f93 := ⟨Tryz.f200.name, by decide, Tryz.func200.trans (congrArg some (by kernel_rfl))⟩,
  f94 := ⟨Tryz.f201.name, by decide, Tryz.func201.trans (congrArg some (by kernel_rfl))⟩,
  f95 := ⟨Tryz.f202.name, by decide, Tryz.func202.trans (congrArg some (by kernel_rfl))⟩,
  f97 := ⟨Tryz.f206.name, by decide, Tryz.func206.trans (congrArg some (by kernel_rfl))⟩,
  t0 := Tryz.underlying0,
  a0 := Tryz.isAgg0,
  z0 := Tryz.sizeOf0,
  v0 := Tryz.zeroValue0,
  t3 := Tryz.underlying3,
  a3 := Tryz.isAgg3,
  z3 := Tryz.sizeOf3,
  v3 := Tryz.zeroValue3,
  t4 := Tryz.underlying4,
  a4 := Tryz.isAgg4,
  z4 := Tryz.sizeOf4,
  v4 := Tryz.zeroValue4,
  t5 := Tryz.underlying5,
  a5 := Tryz.isAgg5,
  z5 := Tryz.sizeOf5,
  v5 := Tryz.zeroValue5,
  t9 := Tryz.underlying9,
  a9 := Tryz.isAgg9,
  z9 := Tryz.sizeOf9,
  v9 := Tryz.zeroValue9,
  t25 := Tryz.underlying66,
  a25 := Tryz.isAgg66,
  z25 := Tryz.sizeOf66,
  v25 := Tryz.zeroValue66,
  t26 := Tryz.underlying9,
  a26 := Tryz.isAgg9,
  z26 := Tryz.sizeOf9,
  v26 := Tryz.zeroValue9,
  t44 := Tryz.underlying205,
  a44 := Tryz.isAgg205,
  z44 := Tryz.sizeOf205,
  v44 := Tryz.zeroValue205,
  t51 := Tryz.underlying120,
  a51 := Tryz.isAgg120,
  z51 := Tryz.sizeOf120,
  v51 := Tryz.zeroValue120,
  t60 := Tryz.underlying200,
  a60 := Tryz.isAgg200,
  z60 := Tryz.sizeOf200,
  v60 := Tryz.zeroValue200,
  t61 := Tryz.underlying201,
  a61 := Tryz.isAgg201,
  z61 := Tryz.sizeOf201,
  v61 := Tryz.zeroValue201,
  t67 := Tryz.underlying129,
  a67 := Tryz.isAgg129,
  z67 := Tryz.sizeOf129,
  v67 := Tryz.zeroValue129,
  t69 := Tryz.underlying128,
  a69 := Tryz.isAgg128,
  z69 := Tryz.sizeOf128,
  v69 := Tryz.zeroValue128,
  t75 := Tryz.underlying223,
  a75 := Tryz.isAgg223,
  z75 := Tryz.sizeOf223,
  v75 := Tryz.zeroValue223,
  t79 := Tryz.underlying227,
  a79 := Tryz.isAgg227,
  z79 := Tryz.sizeOf227,
  v79 := Tryz.zeroValue227,
  t83 := Tryz.underlying232,
  a83 := Tryz.isAgg232,
  z83 := Tryz.sizeOf232,
  v83 := Tryz.zeroValue232,
  t84 := Tryz.underlying233,
  a84 := Tryz.isAgg233,
  z84 := Tryz.sizeOf233,
  v84 := Tryz.zeroValue233 }
end Go.Proofs.YtpecmnaikjbanaaGreatDoor

/- files, part gg1: Names: the keys of a map, in order. -/
set_option linter.unusedVariables false
set_option linter.unusedSimpArgs false
namespace Go.Proofs.YtpecmnaikjbanaaGreatDoor
open Go Go.SL
def sS (l : List ByteArray) : List Value := l.map Value.string
theorem sS_one (l : List ByteArray) : ∀ v ∈ sS l, v.oneCell' = true := by
  intro v hv
  obtain ⟨x, _, rfl⟩ := List.mem_map.1 hv
  rfl
/-- A slice of strings that grows, in a box. -/
def SI (bs : Nat) (ks : List ByteArray) : HP := fun h => ∃ v : Value, True ∧ Sep [pts bs (cl [v] 66), slc 9 1 v ks.length (sS ks)] h
theorem SI_open (bs : Nat) (ks : List ByteArray) : ∀ h, SI bs ks h → ∃ v : Value, True ∧ Sep [pts bs (cl [v] 66), slc 9 1 v ks.length (sS ks)] h := fun h hs => hs
theorem SI_close (bs : Nat) (ks : List ByteArray) (v : Value) (H : List HP) : Ent (pts bs (cl [v] 66) :: slc 9 1 v ks.length (sS ks) :: H) (SI bs ks :: H) :=
  Ent.fold (A := SI bs ks) (B := [pts bs (cl [v] 66), slc 9 1 v ks.length (sS ks)]) fun h hs => ⟨h, sub.refl h, v, trivial, hs⟩
theorem kStr' : KeyOk Tryz.prog 9 Value.string := keyStr Tryz.underlying9
attribute [local irreducible] J K Ctr Ends pts slc mapR mapI sbRow stock arrS loopP CtrY SI

theorem Keys_any (bm : Nat) : Ctr Tryz.prog 84 [.map (some bm)] [] (fun r H => ∃ bx, r = .func (.func 127) #[] #[ptr bx] ∧ H = [pts bx (cl [.map (some bm)] 81)]) := by
  refine Ctr.enter Tryz.func84 (by kernel_rfl) rfl Tryz.ntmps84 rfl rfl ?_
  intro G F R hE
  (refine go ?_)
  refine J_box rfl rfl (fun _ _ _ => trivial) ?_
  intro bx
  (refine go ?_)
  (first | refine K_return hE Tryz.func84 rfl _ rfl ⟨bx, rfl, rfl⟩ entA | refine K_fallEnd hE Tryz.func84 rfl _ rfl ⟨bx, rfl, rfl⟩ entA)
theorem Keys1_any (l bx bm : Nat) (es : List (ByteArray × Value)) (hnd : (es.map (·.1)).Nodup) (Lp : HP) (Inv : List ByteArray → HP)
    (hy : ∀ dn k, k ∈ es.map (·.1) → dn.length < es.length → CtrY Tryz.prog l [.string k] [Lp, Inv dn] (fun v H => v = .bool true ∧ H = [Lp, Inv (dn ++ [k])])) :
    Ctr Tryz.prog 127 [.func (.yield l) #[] #[], ptr bx] [Lp, pts bx (cl [.map (some bm)] 81), mapR Value.string bm es, Inv [] ] (fun _ H => ∃ dn : List ByteArray, dn.Perm (es.map (·.1)) ∧ H = [Lp, pts bx (cl [.map (some bm)] 81), mapR Value.string bm es, Inv dn]) := by
  refine Ctr.enter Tryz.func127 (by kernel_rfl) rfl Tryz.ntmps127 rfl rfl ?_
  intro G F R hE
  refine K_ent (Ent.pick [2, 0, 1] rfl) ?_
  (refine go ?_)
  refine J_range (kv := Value.string) (es := es) (U := tab) 0 rfl rfl rfl rfl rfl (fun _ => rfl) (fun _ _ _ => trivial) ?_
  intro it
  (refine go ?_)
  refine K_loop (fun s : List ByteArray => s.Nodup ∧ ∀ x ∈ s, x ∈ es.map (·.1)) (fun s => es.length - s.length) (fun s => [(0, .func (.yield l) #[] #[]), (5, .pointer (some ⟨it, 0, none⟩))])
    (fun s => mapI Value.string bm it es s :: Lp :: pts bx (cl [.map (some bm)] 81) :: Inv s.reverse :: F) [] ⟨List.nodup_nil, by simp⟩ rfl (by repeat (first | exact keep_nil | refine keep_cons rfl ?_)) entA ?_
  rintro dn ⟨hdn, hsub⟩ ih
  (refine go ?_)
  refine J_next (kv := Value.string) (es := es) 0 rfl kStr'.inj rfl rfl (fun _ => rfl) (fun _ _ => trivial) (fun _ _ _ => trivial) ?_ ?_
  · intro hall
    (refine go ?_)
    refine K_ent (Ent.head (B := [mapR Value.string bm es]) (fun h hs => by obtain ⟨h', s, hm⟩ := mapI_mapR h hs; exact ⟨h', s, Sep_one' hm⟩)) ?_
    have hp : dn.reverse.Perm (es.map (·.1)) := (List.reverse_perm dn).trans ((List.perm_ext_iff_of_nodup hdn hnd).2 fun a => ⟨hsub a, fun h => by obtain ⟨y, hy, rfl⟩ := List.mem_map.1 h; exact hall y hy⟩)
    (first | refine K_return hE Tryz.func127 rfl _ rfl ⟨_, hp, rfl⟩ entA | refine K_fallEnd hE Tryz.func127 rfl _ rfl ⟨_, hp, rfl⟩ entA)
  · intro key v hmem hnot
    have hk : key ∈ es.map (·.1) := List.mem_map.2 ⟨_, hmem, rfl⟩
    have hlt : dn.length < es.length := by
      have h1 : ((List.filter (fun x => decide (x ∈ dn)) (es.map (·.1)))).length ≤ (es.map (·.1)).length := List.length_filter_le _ _
      have h2 : dn.length = (List.filter (fun x => decide (x ∈ dn)) (es.map (·.1))).length := nodup_len2 hdn (hnd.sublist List.filter_sublist) (fun n => by
        simp only [List.mem_filter, decide_eq_true_eq]
        exact ⟨fun h => ⟨hsub n h, h⟩, fun h => h.2⟩)
      rw [List.length_map] at h1
      rcases Nat.lt_or_ge dn.length es.length with h | h
      · exact h
      · exfalso
        have h3 : (List.filter (fun x => decide (x ∈ dn)) (es.map (·.1))).length = (es.map (·.1)).length := by rw [List.length_map]; omega
        have h4 := List.filter_eq_self.1 ((List.filter_sublist (p := fun x => decide (x ∈ dn)) (l := es.map (·.1))).eq_of_length h3) key hk
        exact hnot (of_decide_eq_true h4)
    (refine go ?_)
    refine J_entry (kv := Value.string) (es := es) 0 rfl kStr'.inj rfl rfl hmem ?_
    (refine go ?_)
    refine J_yield rfl rfl rfl (hy dn.reverse key hk (by rw [List.length_reverse]; exact hlt)) entA ?_ (fun _ _ _ _ _ => trivial)
    rintro _ _ ⟨rfl, rfl⟩
    rw [show dn.reverse ++ [key] = (key :: dn).reverse from by simp]
    (refine go ?_)
    refine K_again ih (key :: dn) rfl (⟨List.nodup_cons.2 ⟨hnot, hdn⟩, fun x hx => by rcases List.mem_cons.1 hx with rfl | h; exact hk; exact hsub x h⟩) (by show _ - (key :: dn).length < _; simp only [List.length_cons]; omega) (by repeat (first | exact keep_nil | refine keep_cons rfl ?_)) entA
theorem AppendSeq_any (bx bm : Nat) (es : List (ByteArray × Value)) (hnd : (es.map (·.1)).Nodup) (hes : es.length ≤ 1000000) :
    Ctr Tryz.prog 152 [.slice none 0 0, .func (.func 127) #[] #[ptr bx] ] [pts bx (cl [.map (some bm)] 81), mapR Value.string bm es] (fun r H => ∃ dn : List ByteArray, dn.Perm (es.map (·.1)) ∧ H = [slc 9 1 r dn.length (sS dn), pts bx (cl [.map (some bm)] 81), mapR Value.string bm es]) := by
  refine Ctr.enter Tryz.func152 (by kernel_rfl) rfl Tryz.ntmps152 rfl rfl ?_
  intro G F R hE
  refine K_regionA rfl ?_
  refine J_box rfl rfl (fun _ _ _ => trivial) ?_
  intro bs
  (refine go ?_)
  refine K_adv1 rfl ?_
  refine K_ent (Ent.trans (Ent.cons _ (slc_lift 9 1 none _)) (SI_close bs [] (.slice none 0 0) _)) ?_
  refine K_range (Fr := F) (Pre := fun _ _ => [pts bx (cl [.map (some bm)] 81), mapR Value.string bm es, SI bs [] ]) (Post := ?Po) rfl hE.1.1 rfl ?c (fun l r => entA) ?hend
  case c =>
    intro l r
    refine Keys1_any l bx bm es hnd _ (fun dn => SI bs dn) ?_
    intro dn k hk hlt
    refine CtrY.of_K rfl rfl ?_
    intro G2 F2 R2 hY
    (refine go ?_)
    refine K_beginRound rfl hY ?_
    refine K_ent (Ent.pick [1] rfl) ?_
    refine K_open (SI_open bs dn) ?_
    rintro v -
    refine K_shape 1 rfl ?_
    rintro va vc rfl
    (refine go ?_)
    refine J_buildSlice1 (U := tab) (cs := sS [k]) rfl rfl rfl rfl rfl rfl rfl rfl rfl (fun _ _ _ => trivial) ?_
    intro row
    (refine go ?_)
    refine J_append (U := tab) (mm := 1) (news := sS [k]) 2 0 rfl rfl rfl rfl rfl rfl rfl rfl rfl rfl rfl rfl (Vw.pts rfl) rfl (sS_one _) (by omega) (by show (_ + 1) * 16 ≤ _; omega) (fun _ => rfl) (fun _ _ _ => trivial) ?_
    intro v1
    rw [show sS dn ++ sS [k] = sS (dn ++ [k]) from by simp [sS], show dn.length + 1 = (dn ++ [k]).length from by simp]
    (first | refine J_shape 2 rfl ?_ | refine K_shape 2 rfl ?_)
    rintro va2 vc2 rfl
    (refine go ?_)
    refine K_ent (Ent.trans entA (SI_close bs (dn ++ [k]) (.slice va2 (dn ++ [k]).length vc2) _)) ?_
    refine K_roundEnd hY rfl entA ⟨rfl, rfl⟩
  intro l r v H hpost
  obtain ⟨dn, hp, rfl⟩ := hpost
  refine ⟨_, _, _, rfl, by decide, ?_⟩
  rw [hE.1.2]
  refine K_ent (Ent.pick [2] rfl) ?_
  refine K_open (SI_open bs dn) ?_
  rintro w -
  (refine go ?_)
  refine K_returnM hE Tryz.func152 rfl _ rfl ⟨dn, hp, rfl⟩ entA
theorem Collect_any (bx bm : Nat) (es : List (ByteArray × Value)) (hnd : (es.map (·.1)).Nodup) (hes : es.length ≤ 1000000) :
    Ctr Tryz.prog 125 [.func (.func 127) #[] #[ptr bx] ] [pts bx (cl [.map (some bm)] 81), mapR Value.string bm es] (fun r H => ∃ dn : List ByteArray, dn.Perm (es.map (·.1)) ∧ H = [slc 9 1 r dn.length (sS dn), pts bx (cl [.map (some bm)] 81), mapR Value.string bm es]) := by
  refine Ctr.enter Tryz.func125 (by kernel_rfl) rfl Tryz.ntmps125 rfl rfl ?_
  intro G F R hE
  (refine go ?_)
  (first | refine J_callE rfl rfl rfl rfl (AppendSeq_any bx bm es hnd hes) entA ?_ (fun _ _ _ _ _ => trivial) | refine J_call0E rfl rfl rfl (AppendSeq_any bx bm es hnd hes) entA ?_ (fun _ _ _ _ _ => trivial) | (refine go ?_; first | refine J_callE rfl rfl rfl rfl (AppendSeq_any bx bm es hnd hes) entA ?_ (fun _ _ _ _ _ => trivial) | refine J_call0E rfl rfl rfl (AppendSeq_any bx bm es hnd hes) entA ?_ (fun _ _ _ _ _ => trivial)))
  rintro w _ ⟨dn, hp, rfl⟩
  (refine go ?_)
  (first | refine K_return hE Tryz.func125 rfl _ rfl ⟨dn, hp, rfl⟩ entA | refine K_fallEnd hE Tryz.func125 rfl _ rfl ⟨dn, hp, rfl⟩ entA)
def nS (l : List (List UInt8)) : List Value := l.map Go.Proofs.encStr
theorem sS_nS (l : List ByteArray) : sS l = nS (l.map fun b => b.data.toList) := by
  unfold sS nS
  rw [List.map_map]
  rfl
theorem SortS_any (v : Value) (l : List ByteArray) (hl : l.length ≤ 1000000000) : Ctr Tryz.prog 126 [v] [slc 9 1 v l.length (sS l)] (fun r H => r = .tuple #[] ∧ H = [slc 9 1 v l.length (nS (sortB l))]) := by
  have h := sortStr_ctr (ρ := sortS_ren) sortS 9 v (l.map fun b => b.data.toList) (by kernel_rfl) (by rw [List.length_map]; omega)
  rw [List.length_map] at h
  rw [sS_nS]
  exact h
theorem Sorted_any (bx bm : Nat) (es : List (ByteArray × Value)) (hnd : (es.map (·.1)).Nodup) (hes : es.length ≤ 1000000) :
    Ctr Tryz.prog 83 [.func (.func 127) #[] #[ptr bx] ] [pts bx (cl [.map (some bm)] 81), mapR Value.string bm es] (fun r H => H = [slc 9 1 r es.length (nS (sortB (es.map (·.1)))), pts bx (cl [.map (some bm)] 81), mapR Value.string bm es]) := by
  refine Ctr.enter Tryz.func83 (by kernel_rfl) rfl Tryz.ntmps83 rfl rfl ?_
  intro G F R hE
  (refine go ?_)
  (first | refine J_callE rfl rfl rfl rfl (Collect_any bx bm es hnd hes) entA ?_ (fun _ _ _ _ _ => trivial) | refine J_call0E rfl rfl rfl (Collect_any bx bm es hnd hes) entA ?_ (fun _ _ _ _ _ => trivial) | (refine go ?_; first | refine J_callE rfl rfl rfl rfl (Collect_any bx bm es hnd hes) entA ?_ (fun _ _ _ _ _ => trivial) | refine J_call0E rfl rfl rfl (Collect_any bx bm es hnd hes) entA ?_ (fun _ _ _ _ _ => trivial)))
  rintro w _ ⟨dn, hp, rfl⟩
  have hlen : dn.length = es.length := by rw [hp.length_eq, List.length_map]
  (first | refine J_shape 0 rfl ?_ | refine K_shape 0 rfl ?_)
  rintro wa wc rfl
  (refine go ?_)
  (first | refine J_callE rfl rfl rfl rfl (SortS_any (.slice wa dn.length wc) dn (by omega)) entA ?_ (fun _ _ _ _ _ => trivial) | refine J_call0E rfl rfl rfl (SortS_any (.slice wa dn.length wc) dn (by omega)) entA ?_ (fun _ _ _ _ _ => trivial) | (refine go ?_; first | refine J_callE rfl rfl rfl rfl (SortS_any (.slice wa dn.length wc) dn (by omega)) entA ?_ (fun _ _ _ _ _ => trivial) | refine J_call0E rfl rfl rfl (SortS_any (.slice wa dn.length wc) dn (by omega)) entA ?_ (fun _ _ _ _ _ => trivial)))
  rintro _ _ ⟨rfl, rfl⟩
  rw [sortB_perm hp, hlen]
  (refine go ?_)
  (first | refine K_return hE Tryz.func83 rfl _ rfl rfl entA | refine K_fallEnd hE Tryz.func83 rfl _ rfl rfl entA)
theorem Names_any (bd : Nat) (D : Dk) (A : Ab) (hR : Rel D A) : Ctr Tryz.prog 30 [ptr bd] [disk bd D] (fun r H => H = [slc 9 1 r (keysA A).length (nS (sortB (keysA A))), disk bd D]) := by
  have hnd := hR.nodup _ (List.mem_cons_self ..)
  have hsm := hR.smallN _ (List.mem_cons_self ..)
  have hkeys : (ptrs A.names).map (·.1) = keysA A := by simp [ptrs, keysA, Function.comp_def]
  have hkl : (ptrs A.names).length = (keysA A).length := by simp [ptrs, keysA]
  have hsl : (keysA A).length ≤ 200 := by unfold keysA; rw [List.length_map]; exact hsm
  obtain ⟨jm, hjm⟩ := List.getElem?_of_mem hR.names
  obtain ⟨room, bm, sts, wrs, pln, off, maps, arrs, files, stb, wl⟩ := D
  simp only at hjm
  refine Ctr.enter Tryz.func30 (by kernel_rfl) rfl Tryz.ntmps30 rfl rfl ?_
  intro G F R hE
  refine K_ent (disk_o _ _ _ _ _ _ _ _ _ _ _ _ _) ?_
  (refine go ?_)
  (first | refine J_callE rfl rfl rfl rfl (Keys_any bm) entA ?_ (fun _ _ _ _ _ => trivial) | refine J_call0E rfl rfl rfl (Keys_any bm) entA ?_ (fun _ _ _ _ _ => trivial) | (refine go ?_; first | refine J_callE rfl rfl rfl rfl (Keys_any bm) entA ?_ (fun _ _ _ _ _ => trivial) | refine J_call0E rfl rfl rfl (Keys_any bm) entA ?_ (fun _ _ _ _ _ => trivial)))
  rintro _ _ ⟨bx, rfl, rfl⟩
  have hso := Sorted_any bx bm (ptrs A.names) (by rw [hkeys]; exact hnd) (by omega)
  rw [hkeys, hkl] at hso
  refine J_ent (Ent.pick [2] rfl) ?_
  refine J_ent (stock_out mapG hjm _) ?_
  refine J_ent (Ent.pick [2, 0] rfl) ?_
  (refine go ?_)
  refine J_callE rfl rfl rfl rfl hso entA ?_ (fun _ _ _ _ _ => trivial)
  rintro v _ rfl
  refine J_ent (Ent.pick [2, 3] rfl) ?_
  refine J_ent (stock_in mapG hjm _) ?_
  (refine go ?_)
  refine K_ent ((Ent.pick [3, 0, 4, 5, 6, 7] rfl).trans (disk_c _ _ _ _ _ _ _ _ _ _ _ _ _)) ?_
  (first | refine K_return hE Tryz.func30 rfl _ rfl rfl entA | refine K_fallEnd hE Tryz.func30 rfl _ rfl rfl entA)
end Go.Proofs.YtpecmnaikjbanaaGreatDoor

