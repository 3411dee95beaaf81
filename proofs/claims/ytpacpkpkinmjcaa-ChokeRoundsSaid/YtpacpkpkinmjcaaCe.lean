/- choke, part e: Choose. -/
import Derived.Test.YtpacpkpkinmjcaaCd
import Derived.Test.YtpacpkpkinmjcaaEngP
set_option linter.unusedVariables false
set_option linter.unusedSimpArgs false
namespace Go.Proofs.Ytpacpkpkinmjcaa
open Go Go.SL
/-- A peer that wants. -/
structure Wt where
  id : Int
  by_ : Int
deriving DecidableEq
instance : Inhabited Wt := ⟨⟨0, 0⟩⟩
def Wt.rt (x : Wt) : Rt := ⟨x.id, x.by_, true⟩
def wC (x : Wt) : List Value := rC x.rt
theorem wC_len (x : Wt) : (wC x).length = 3 := rfl
def cfW (x y : Wt) : Int := cfR x.rt y.rt
/-- Those of more bytes first, of those the lower number. -/
def before (x y : Wt) : Bool := decide (y.by_ < x.by_ ∨ (x.by_ = y.by_ ∧ x.id < y.id))
theorem cf_int (a b c d : Int) : orL [cmpI b a, cmpI c d] < 0 ↔ (b < a ∨ (a = b ∧ c < d)) := by
  simp only [orL, cmpI]
  by_cases h1 : b < a
  · simp [h1]
  · by_cases h2 : a < b
    · simp [h1, h2]; omega
    · have h3 : a = b := by omega
      by_cases h4 : c < d
      · simp [h3, h4]
      · by_cases h5 : d < c
        · simp [h3, h4, h5]
        · simp [h3, h4, h5]
theorem cfW_lt : Go.Proofs.ltOf cfW = before := by
  funext x y
  exact decide_eq_decide.2 (cf_int x.by_ y.by_ x.id y.id)
theorem before_swo : Go.Sort.SWO before where
  irrefl x := by simp [before]
  trans x y z h1 h2 := by simp [before] at *; omega
  ntrans x y z h1 h2 := by simp [before] at *; omega
theorem before_tot (x y : Wt) (h1 : before x y = false) (h2 : before y x = false) : x = y := by
  cases x; cases y; simp [before] at *; omega
def wantW (l : List Rt) : List Wt := (l.filter (·.w)).map fun x => ⟨x.id, x.by_⟩
theorem wantW_rV (l : List Rt) : rV (l.filter fun x => !!x.w) = (wantW l).flatMap wC ∧ (l.filter fun x => !!x.w).length = (wantW l).length := by
  simp only [Bool.not_not]
  refine ⟨?_, by simp [wantW]⟩
  unfold rV wantW
  rw [List.flatMap_map]
  induction l with
  | nil => rfl
  | cons x l ih =>
    rw [List.filter_cons]
    split
    · rename_i h
      rw [List.flatMap_cons, List.flatMap_cons, ih]
      congr 1
      unfold wC Wt.rt rC
      simp only
      rw [h]
    · exact ih
/-- Those that want, the best first. -/
def rank (l : List Rt) : List Wt := (wantW l).mergeSort fun x y => !before y x
theorem rank_len (l : List Rt) : (rank l).length = (wantW l).length := List.length_mergeSort _
theorem wantW_len (l : List Rt) : (wantW l).length ≤ l.length := by unfold wantW; rw [List.length_map]; exact List.length_filter_le _ _
theorem wC_rV (s : List Wt) : s.flatMap wC = rV (s.map Wt.rt) := by unfold rV; rw [List.flatMap_map]; rfl
theorem toNat_lt {z : Int} (h : 0 ≤ z ∧ z < 18446744073709551616) : z.toNat < 18446744073709551616 := by omega
theorem mixV_lt (z : Int) : (mixV z).toNat < 18446744073709551616 := toNat_lt (mixV_range z)
abbrev Res := List Int × Int × Int
def firstA (l : List Rt) (slots : Int) : List Int := risI (((rank l).take (min (slots - 1) (rank l).length).toNat).map Wt.id)
def othersA (l : List Rt) (slots : Int) : List Int := risI (((rank l).drop (min (slots - 1) (rank l).length).toNat).map Wt.id)
/-- The number drawn. -/
def drawA (seed : Int) (n : Nat) : Nat := belowN (mixV (nextS seed)).toNat n
def triedA (o : List Int) (tried : Int) (turn : Bool) (seed : Int) : Int := if turn = true ∨ tried ∉ o then o.getD (drawA seed o.length) 0 else tried
def chooseA (l : List Rt) (slots tried : Int) (turn : Bool) (seed : Int) : Res :=
  if slots < 1 ∨ 16 < slots then ([], 0, 1) else if rightA l ≠ 0 then ([], 0, rightA l) else
  if othersA l slots = [] then (firstA l slots, 0, 0) else
  (risI (firstA l slots ++ [triedA (othersA l slots) tried turn seed]), triedA (othersA l slots) tried turn seed, 0)
attribute [local irreducible] J K Ctr Ends pts slc mapR mapI sbRow stock arrS loopP CtrY belowN mixV nextS

theorem SortFunc_any (v : Value) (l : List Wt) (hl : l.length ≤ 1000000000) :
    Ctr Try.prog 25 [v, .func (.func 26) #[] #[]] [slc 34 3 v l.length (l.flatMap wC)] (fun r H => r = .tuple #[] ∧ H = [slc 34 3 v l.length ((l.mergeSort fun x y => !before y x).flatMap wC)]) := by
  have h := sortFunc_ctr (ρ := sortL_ren) sortL 3 Try.isAgg34 Try.sizeOf34 wC (fun _ => rfl) (fun x v hv => by simp [wC, rC] at hv; rcases hv with rfl | rfl | rfl <;> rfl) cfW (by rw [cfW_lt]; exact before_swo) 26 34 v l (by kernel_rfl) (enters_of Try.func26 (by kernel_rfl) rfl) (fun x y => Choose2_any x.rt y.rt) (by omega) (by rw [cfW_lt]; exact before_tot)
  rw [cfW_lt] at h
  exact h
theorem Choose_any (A : HP) (v : Value) (l : List Rt) (slots tried : Int) (turn : Bool) (seed : Int) (hv : Vw A v l.length (rV l)) (hl : l.length ≤ 9223372036854775807) (hs : i64 slots) (ht : i64 tried) :
    Ctr Try.prog 10 [v, .int .i64 slots, .int .i64 tried, .bool turn, .int .u64 seed] [A]
      (fun r H => ∃ w, r = .tuple #[w, .int .i64 (chooseA l slots tried turn seed).2.1, .int .i64 (chooseA l slots tried turn seed).2.2] ∧ H = [slc 3 1 w (chooseA l slots tried turn seed).1.length (iV (chooseA l slots tried turn seed).1), A]) := by
  obtain ⟨a, c0, rfl⟩ := hv.shape
  obtain ⟨res, hres⟩ : ∃ res, res = chooseA l slots tried turn seed := ⟨_, rfl⟩
  rw [← hres]
  unfold chooseA at hres
  refine Ctr.enter Try.func10 (by kernel_rfl) rfl Try.ntmps10 rfl rfl ?_
  intro G F R hE
  (refine go ?_)
  refine J_gsP rfl rfl rfl rfl ?_ ?_
  · intro h
    rw [if_pos (.inl h)] at hres
    subst hres
    (refine go ?_)
    (first | refine K_ent (slc_lift 3 1 none _) ?_ | refine J_ent (slc_lift 3 1 none _) ?_)
    (first | refine K_return hE Try.func10 rfl _ rfl ⟨_, rfl, rfl⟩ entA | refine K_fallEnd hE Try.func10 rfl _ rfl ⟨_, rfl, rfl⟩ entA)
  intro h1
  (refine go ?_)
  refine K_condP rfl rfl ?_ ?_
  · intro h
    rw [if_pos (.inr h)] at hres
    subst hres
    (refine go ?_)
    (first | refine K_ent (slc_lift 3 1 none _) ?_ | refine J_ent (slc_lift 3 1 none _) ?_)
    (first | refine K_return hE Try.func10 rfl _ rfl ⟨_, rfl, rfl⟩ entA | refine K_fallEnd hE Try.func10 rfl _ rfl ⟨_, rfl, rfl⟩ entA)
  intro h2
  rw [if_neg (by omega)] at hres
  (refine go ?_)
  (first | refine J_callE rfl rfl rfl rfl (right_any A (.slice a l.length c0) l hv hl) entA ?_ (fun _ _ _ _ _ => trivial) | refine J_call0E rfl rfl rfl (right_any A (.slice a l.length c0) l hv hl) entA ?_ (fun _ _ _ _ _ => trivial) | (refine go ?_; first | refine J_callE rfl rfl rfl rfl (right_any A (.slice a l.length c0) l hv hl) entA ?_ (fun _ _ _ _ _ => trivial) | refine J_call0E rfl rfl rfl (right_any A (.slice a l.length c0) l hv hl) entA ?_ (fun _ _ _ _ _ => trivial)))
  rintro _ _ ⟨rfl, rfl⟩
  (refine go ?_)
  refine K_condP rfl rfl ?_ ?_
  · intro h
    rw [if_pos h] at hres
    subst hres
    (refine go ?_)
    (first | refine K_ent (slc_lift 3 1 none _) ?_ | refine J_ent (slc_lift 3 1 none _) ?_)
    (first | refine K_return hE Try.func10 rfl _ rfl ⟨_, rfl, rfl⟩ entA | refine K_fallEnd hE Try.func10 rfl _ rfl ⟨_, rfl, rfl⟩ entA)
  intro h3
  rw [if_neg h3] at hres
  have h64 : l.length ≤ 64 := by
    rcases Nat.lt_or_ge 64 l.length with h | h
    · exact absurd (show rightA l ≠ 0 from by unfold rightA; rw [if_pos (.inl h)]; decide) h3
    · exact h
  have hwl := wantW_len l
  (refine go ?_)
  (first | refine J_callE rfl rfl rfl rfl (Clone_rt A (.slice a l.length c0) l hv (by omega)) entA ?_ (fun _ _ _ _ _ => trivial) | refine J_call0E rfl rfl rfl (Clone_rt A (.slice a l.length c0) l hv (by omega)) entA ?_ (fun _ _ _ _ _ => trivial) | (refine go ?_; first | refine J_callE rfl rfl rfl rfl (Clone_rt A (.slice a l.length c0) l hv (by omega)) entA ?_ (fun _ _ _ _ _ => trivial) | refine J_call0E rfl rfl rfl (Clone_rt A (.slice a l.length c0) l hv (by omega)) entA ?_ (fun _ _ _ _ _ => trivial)))
  rintro w1 _ rfl
  (first | refine J_shape 0 rfl ?_ | refine K_shape 0 rfl ?_)
  rintro wa wc rfl
  (refine go ?_)
  (first | refine K_ent (Ent.addEmp _) ?_ | refine J_ent (Ent.addEmp _) ?_)
  (first | refine J_callE rfl rfl rfl rfl (DeleteFunc_rt (.slice wa l.length wc) l emp 24 [] (fun x => !x.w) (by omega) (fun x _ => Ctr.frame1 emp (Choose1_any x))) entA ?_ (fun _ _ _ _ _ => trivial) | refine J_call0E rfl rfl rfl (DeleteFunc_rt (.slice wa l.length wc) l emp 24 [] (fun x => !x.w) (by omega) (fun x _ => Ctr.frame1 emp (Choose1_any x))) entA ?_ (fun _ _ _ _ _ => trivial) | (refine go ?_; first | refine J_callE rfl rfl rfl rfl (DeleteFunc_rt (.slice wa l.length wc) l emp 24 [] (fun x => !x.w) (by omega) (fun x _ => Ctr.frame1 emp (Choose1_any x))) entA ?_ (fun _ _ _ _ _ => trivial) | refine J_call0E rfl rfl rfl (DeleteFunc_rt (.slice wa l.length wc) l emp 24 [] (fun x => !x.w) (by omega) (fun x _ => Ctr.frame1 emp (Choose1_any x))) entA ?_ (fun _ _ _ _ _ => trivial)))
  rintro w2 _ rfl
  rw [(wantW_rV l).1, (wantW_rV l).2]
  (first | refine J_shape 0 rfl ?_ | refine K_shape 0 rfl ?_)
  rintro va vc rfl
  (refine go ?_)
  (first | refine J_callE rfl rfl rfl rfl (SortFunc_any (.slice va (wantW l).length vc) (wantW l) (by omega)) entA ?_ (fun _ _ _ _ _ => trivial) | refine J_call0E rfl rfl rfl (SortFunc_any (.slice va (wantW l).length vc) (wantW l) (by omega)) entA ?_ (fun _ _ _ _ _ => trivial) | (refine go ?_; first | refine J_callE rfl rfl rfl rfl (SortFunc_any (.slice va (wantW l).length vc) (wantW l) (by omega)) entA ?_ (fun _ _ _ _ _ => trivial) | refine J_call0E rfl rfl rfl (SortFunc_any (.slice va (wantW l).length vc) (wantW l) (by omega)) entA ?_ (fun _ _ _ _ _ => trivial)))
  rintro _ _ ⟨rfl, rfl⟩
  change J _ _ _ _ _ _ _ _ _ _ (slc _ 3 _ _ ((rank l).flatMap wC) :: _)
  (refine go ?_)
  rw [← rank_len l]
  have hrl := rank_len l
  refine K_slcLe 0 rfl ?_
  intro hle hcl hvw
  obtain ⟨k, hk⟩ : ∃ k : Nat, (k : Int) = min (slots - 1) (rank l).length := ⟨(min (slots - 1) (rank l).length).toNat, by omega⟩
  have hkl : k ≤ (rank l).length := by omega
  have hf : firstA l slots = risI (((rank l).take k).map Wt.id) := by unfold firstA; rw [← hk, Int.toNat_natCast]
  have ho : othersA l slots = risI (((rank l).drop k).map Wt.id) := by unfold othersA; rw [← hk, Int.toNat_natCast]
  have hv1 : Vw (slc 34 3 (.slice va (rank l).length vc) (rank l).length ((rank l).flatMap wC)) (.slice (sliceAt va vc 0 3) k vc) (((rank l).take k).map Wt.rt).length (rV (((rank l).take k).map Wt.rt)) := by
    have := hvw.cut0 (s := 3) k
    rw [← chunk_take wC_len (rank l) k hkl, wC_rV ((rank l).take k)] at this
    rwa [List.length_map, List.length_take, Nat.min_eq_left hkl]
  have hv2 : Vw (slc 34 3 (.slice va (rank l).length vc) (rank l).length ((rank l).flatMap wC)) (.slice (sliceAt va vc k 3) ((rank l).length - k) (vc - k)) (((rank l).drop k).map Wt.rt).length (rV (((rank l).drop k).map Wt.rt)) := by
    have := hvw.cutk hcl hle k hkl
    have hd : ((rank l).flatMap wC).drop (k * 3) = ((rank l).drop k).flatMap wC := by
      have h1 : (rank l).flatMap wC = ((rank l).take k).flatMap wC ++ ((rank l).drop k).flatMap wC := by rw [← List.flatMap_append, List.take_append_drop]
      have h2 : (((rank l).take k).flatMap wC).length = k * 3 := by rw [chunk_len wC_len, List.length_take, Nat.min_eq_left hkl]
      rw [h1, ← h2, List.drop_left]
    rw [hd, wC_rV ((rank l).drop k)] at this
    rwa [List.length_map, List.length_drop]
  have hi1 := ids_any _ _ _ hv1 (by rw [List.length_map, List.length_take]; omega)
  have hi2 := ids_any _ _ _ hv2 (by rw [List.length_map, List.length_drop]; omega)
  rw [List.map_map, show Rt.id ∘ Wt.rt = Wt.id from rfl, List.length_map] at hi1 hi2
  rw [← hf] at hi1
  rw [← ho] at hi2
  have hfl : (firstA l slots).length = ((rank l).take k).length := by rw [hf, risI_len, List.length_map]
  have hol : (othersA l slots).length = ((rank l).drop k).length := by rw [ho, risI_len, List.length_map]
  rw [← hfl] at hi1
  rw [← hol] at hi2
  rw [List.length_take] at hfl
  rw [List.length_drop] at hol
  clear hf ho
  generalize firstA l slots = first at *
  generalize othersA l slots = others at *
  (first | refine J_slot 15 ((.int .i64 (k : Int))) rfl ((congrArg (Value.int .i64) (by omega))) ?_ | refine K_slot 15 ((.int .i64 (k : Int))) rfl ((congrArg (Value.int .i64) (by omega))) ?_)
  refine K_drawA (fun w => Sat G w ([slc 34 3 (.slice va (rank l).length vc) (rank l).length ((rank l).flatMap wC)])) (.st 0 (.st 1 (.st 2 (.st 4 (.st 5 (.st 6 (.act 3 (.act 7 (.st 8 (.st 9 .nil)))))))))) rfl (by kernel_rfl) (by kernel_rfl) (by kernel_rfl) (fun w hw => hw.ent entA) ?_
  (refine go ?_)
  refine J_sliceAny (U := tab) rfl rfl rfl rfl rfl rfl rfl (by omega) (by omega) (.inr (by omega)) ?_
  (first | refine J_slot 41 ((.slice (sliceAt va vc 0 3) k vc)) rfl ((by simp; rfl)) ?_ | refine K_slot 41 ((.slice (sliceAt va vc 0 3) k vc)) rfl ((by simp; rfl)) ?_)
  (refine go ?_)
  refine J_sliceAny (U := tab) rfl rfl rfl rfl rfl rfl rfl (by omega) (by omega) (.inl rfl) ?_
  (first | refine J_slot 45 ((.slice (sliceAt va vc k 3) ((rank l).length - k) (vc - k))) rfl ((by simp; rfl)) ?_ | refine K_slot 45 ((.slice (sliceAt va vc k 3) ((rank l).length - k) (vc - k))) rfl ((by simp; rfl)) ?_)
  (refine go ?_)
  (first | refine J_callE rfl rfl rfl rfl (hi1) entA ?_ (fun _ _ w hp hw => by obtain rfl := hp; exact hw.ent entA) | refine J_call0E rfl rfl rfl (hi1) entA ?_ (fun _ _ w hp hw => by obtain rfl := hp; exact hw.ent entA))
  rintro q1 _ rfl
  (refine go ?_)
  (first | refine J_callE rfl rfl rfl rfl (hi2) entA ?_ (fun _ _ w hp hw => by obtain rfl := hp; exact hw.ent entA) | refine J_call0E rfl rfl rfl (hi2) entA ?_ (fun _ _ w hp hw => by obtain rfl := hp; exact hw.ent entA))
  rintro q2 _ rfl
  (first | refine J_shape 0 rfl ?_ | refine K_shape 0 rfl ?_)
  rintro oa oc rfl
  (first | refine J_shape 2 rfl ?_ | refine K_shape 2 rfl ?_)
  rintro fa fc rfl
  (refine go ?_)
  refine K_condP rfl rfl ?_ ?_
  · intro h0
    have ho0 : others = [] := List.eq_nil_of_length_eq_zero (by omega)
    rw [if_pos ho0] at hres
    subst hres
    (refine go ?_)
    (first | refine K_return hE Try.func10 rfl _ rfl ⟨_, rfl, rfl⟩ entA | refine K_fallEnd hE Try.func10 rfl _ rfl ⟨_, rfl, rfl⟩ entA)
  intro h0
  have hop : 0 < others.length := by omega
  rw [if_neg (fun e => by rw [e] at hop; simp at hop)] at hres
  refine K_adv1 rfl ?_
  refine K_mid 2 (fun t : Int => t = triedA others tried turn seed) (fun t => [(2, .int .i64 t), (16, .slice fa first.length fc)]) (fun t => slc 3 1 (.slice fa first.length fc) first.length (iV first) :: A :: F) rfl ?_ ?_
  · rintro t rfl
    generalize triedA others tried turn seed = t at *
    subst hres
    (refine go ?_)
    refine J_buildSlice1 (U := tab) (cs := iV [t]) rfl rfl rfl rfl rfl rfl rfl rfl rfl (fun _ _ _ => trivial) ?_
    intro b1
    (refine go ?_)
    refine J_append (U := tab) (mm := 1) (news := iV [t]) 1 0 rfl rfl rfl rfl rfl rfl rfl rfl rfl rfl rfl rfl (Vw.pts rfl) rfl (iV_one _) (by omega) (by show (_ + 1) * 8 ≤ _; omega) (fun _ => rfl) (fun _ _ _ => trivial) ?_
    intro v1
    rw [show iV first ++ iV [t] = iV (first ++ [t]) from by simp [iV], show first.length + 1 = (first ++ [t]).length from by simp]
    (first | refine J_shape 1 rfl ?_ | refine K_shape 1 rfl ?_)
    rintro va2 vc2 rfl
    (refine go ?_)
    have hso := Sort_any (.slice va2 (first ++ [t]).length vc2) (first ++ [t]) (by simp; omega)
    rw [← risI_len (first ++ [t])] at hso
    rw [← risI_len (first ++ [t])]
    (first | refine J_callE rfl rfl rfl rfl (hso) entA ?_ (fun _ _ _ _ _ => trivial) | refine J_call0E rfl rfl rfl (hso) entA ?_ (fun _ _ _ _ _ => trivial) | (refine go ?_; first | refine J_callE rfl rfl rfl rfl (hso) entA ?_ (fun _ _ _ _ _ => trivial) | refine J_call0E rfl rfl rfl (hso) entA ?_ (fun _ _ _ _ _ => trivial)))
    rintro _ _ ⟨rfl, rfl⟩
    (refine go ?_)
    (first | refine K_return hE Try.func10 rfl _ rfl ⟨_, rfl, rfl⟩ entA | refine K_fallEnd hE Try.func10 rfl _ rfl ⟨_, rfl, rfl⟩ entA)
  · intro tail
    have hrange := belowN_lt (x := (mixV (nextS seed)).toNat) (n := others.length) (mixV_lt _) hop
    have hbel := fun b => Below_any b seed others.length (by omega)
    generalize hd : belowN (mixV (nextS seed)).toNat others.length = d at hrange hbel
    obtain ⟨x, hx⟩ : ∃ x, others[d]? = some x := ⟨others[d], by simp [hrange]⟩
    have hxd : others.getD (drawA seed others.length) 0 = x := by
      rw [show drawA seed others.length = d from hd, List.getD_eq_getElem?_getD, hx]; rfl
    have hdraw : turn = true ∨ tried ∉ others → x = triedA others tried turn seed := fun h => by unfold triedA; rw [if_pos h, hxd]
    refine K_slcF 0 rfl hop ?_
    intro ob oo ooc he hle2 hcl2 hvo
    simp only [Value.slice.injEq, true_and] at he
    obtain ⟨rfl, rfl⟩ := he
    cases turn with
    | true =>
      have ht1 := hdraw (.inl rfl)
      (refine go ?_)
      (first | refine J_callE rfl rfl rfl rfl (drawNew_any seed) entA ?_ (fun _ _ _ _ _ => trivial) | refine J_call0E rfl rfl rfl (drawNew_any seed) entA ?_ (fun _ _ _ _ _ => trivial) | (refine go ?_; first | refine J_callE rfl rfl rfl rfl (drawNew_any seed) entA ?_ (fun _ _ _ _ _ => trivial) | refine J_call0E rfl rfl rfl (drawNew_any seed) entA ?_ (fun _ _ _ _ _ => trivial)))
      rintro _ _ ⟨bs, rfl, rfl⟩
      (refine go ?_)
      (first | refine J_callE rfl rfl rfl rfl (hbel bs) entA ?_ (fun _ _ _ _ _ => trivial) | refine J_call0E rfl rfl rfl (hbel bs) entA ?_ (fun _ _ _ _ _ => trivial) | (refine go ?_; first | refine J_callE rfl rfl rfl rfl (hbel bs) entA ?_ (fun _ _ _ _ _ => trivial) | refine J_call0E rfl rfl rfl (hbel bs) entA ?_ (fun _ _ _ _ _ => trivial)))
      rintro _ _ ⟨rfl, rfl⟩
      (refine go ?_)
      refine J_at1 (U := tab) d rfl rfl rfl rfl rfl rfl rfl rfl hrange ?_
      refine J_loadAt (U := tab) 1 d rfl rfl rfl hvo rfl (iV_get hx) rfl rfl ?_
      (refine goR ?_)
      refine K_to tail x rfl ht1 (by repeat (first | exact keep_nil | refine keep_cons rfl ?_)) entA
    | false =>
      (refine go ?_)
      (first | refine J_callE rfl rfl rfl rfl (ContainsI_any _ (.slice (some ⟨ob, oo, none⟩) others.length oc) others tried hvo (by omega)) entA ?_ (fun _ _ _ _ _ => trivial) | refine J_call0E rfl rfl rfl (ContainsI_any _ (.slice (some ⟨ob, oo, none⟩) others.length oc) others tried hvo (by omega)) entA ?_ (fun _ _ _ _ _ => trivial) | (refine go ?_; first | refine J_callE rfl rfl rfl rfl (ContainsI_any _ (.slice (some ⟨ob, oo, none⟩) others.length oc) others tried hvo (by omega)) entA ?_ (fun _ _ _ _ _ => trivial) | refine J_call0E rfl rfl rfl (ContainsI_any _ (.slice (some ⟨ob, oo, none⟩) others.length oc) others tried hvo (by omega)) entA ?_ (fun _ _ _ _ _ => trivial)))
      rintro _ _ ⟨rfl, rfl⟩
      by_cases hmem : tried ∈ others
      · rw [decide_eq_true hmem]
        have ht1 : tried = triedA others tried false seed := by unfold triedA; rw [if_neg (by rintro (h | h); cases h; exact h hmem)]
        (refine goR ?_)
        refine K_condF rfl rfl ?_
        refine K_to tail tried rfl ht1 (by repeat (first | exact keep_nil | refine keep_cons rfl ?_)) entA
      · rw [decide_eq_false hmem]
        have ht1 := hdraw (.inr hmem)
        (refine go ?_)
        (first | refine J_callE rfl rfl rfl rfl (drawNew_any seed) entA ?_ (fun _ _ _ _ _ => trivial) | refine J_call0E rfl rfl rfl (drawNew_any seed) entA ?_ (fun _ _ _ _ _ => trivial) | (refine go ?_; first | refine J_callE rfl rfl rfl rfl (drawNew_any seed) entA ?_ (fun _ _ _ _ _ => trivial) | refine J_call0E rfl rfl rfl (drawNew_any seed) entA ?_ (fun _ _ _ _ _ => trivial)))
        rintro _ _ ⟨bs, rfl, rfl⟩
        (refine go ?_)
        (first | refine J_callE rfl rfl rfl rfl (hbel bs) entA ?_ (fun _ _ _ _ _ => trivial) | refine J_call0E rfl rfl rfl (hbel bs) entA ?_ (fun _ _ _ _ _ => trivial) | (refine go ?_; first | refine J_callE rfl rfl rfl rfl (hbel bs) entA ?_ (fun _ _ _ _ _ => trivial) | refine J_call0E rfl rfl rfl (hbel bs) entA ?_ (fun _ _ _ _ _ => trivial)))
        rintro _ _ ⟨rfl, rfl⟩
        (refine go ?_)
        refine J_at1 (U := tab) d rfl rfl rfl rfl rfl rfl rfl rfl hrange ?_
        refine J_loadAt (U := tab) 1 d rfl rfl rfl hvo rfl (iV_get hx) rfl rfl ?_
        (refine goR ?_)
        refine K_to tail x rfl ht1 (by repeat (first | exact keep_nil | refine keep_cons rfl ?_)) entA
end Go.Proofs.Ytpacpkpkinmjcaa
