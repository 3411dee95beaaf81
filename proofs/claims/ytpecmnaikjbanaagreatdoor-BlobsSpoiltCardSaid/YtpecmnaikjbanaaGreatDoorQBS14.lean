/- Texts of one claim, joined: Bu, Bx, By0, By, Bz0, EngS, Bz1. -/
import Derived.Test.YtpecmnaikjbanaaGreatDoorQBS8
import Derived.Test.YtpecmnaikjbanaaGreatDoorQBS10
import Derived.Test.YtpecmnaikjbanaaGreatDoorQBS12
import Derived.Test.YtpecmnaikjbanaaGreatDoorQBS13
import Derived.Test.YtpecmnaikjbanaaGreatDoorRows
import Derived.OpenShut
import Derived.ChangeArms
import Derived.ProofKit
import Derived.Handed
import Derived.JoinedOf
import Derived.RowKit
import Derived.Deep.Slices
import Derived.DataElems
import Derived.WalkKit
import Derived.ShutString
import Derived.ChangeOld
import Derived.Below
import Derived.SizedLaws
import Derived.ChangeSame
import Derived.ChangeVars
/- blobs, the law's awake. -/
set_option linter.unusedVariables false
set_option linter.unusedSimpArgs false
namespace Go.Proofs.YtpecmnaikjbanaaGreatDoor
open Go Go.SL
attribute [local irreducible] J K Ctr Ends pts slc mapR mapI sbRow stock arrS loopP CtrY Sha.chunks Sha.chunk Sha.rounds Sha.sched sumL taggedL GI leafL diskA
theorem namesF_nil {A : Ab} (h : A.names = []) : namesF A = [] := by
  have := namesF_names A
  rw [h] at this
  exact List.length_eq_zero_iff.1 this
theorem stScrub_nil {kind : List UInt8} {right : Ab → Dg → Bool} {A B : Ab} {e : Nat} (h : A.names = []) (hs : stScrub kind right A e B) : e = 0 ∧ B = A := by
  unfold stScrub at hs
  rw [namesF_nil h] at hs
  exact hs
theorem Open_new {A B : Ab} {e : Nat} (h : A.names = []) (ho : OpenS A e B) : e = 0 ∧ B = A := by
  obtain ⟨e1, A1, ⟨e2, A2, h2, c2⟩, hfin⟩ := ho
  obtain ⟨rfl, rfl⟩ := stScrub_nil h h2
  rcases c2 with ⟨hne, _⟩ | ⟨_, e3, A3, h3, c3⟩
  · exact absurd rfl hne
  obtain ⟨rfl, rfl⟩ := stScrub_nil h h3
  rcases c3 with ⟨hne, _⟩ | ⟨_, e4, A4, h4, c4⟩
  · exact absurd rfl hne
  obtain ⟨rfl, rfl⟩ := stScrub_nil h h4
  rcases c4 with ⟨hne, _⟩ | ⟨_, rfl, rfl⟩
  · exact absurd rfl hne
  rw [if_neg (by omega)] at hfin
  exact hfin
theorem usedS_none {A : Ab} {brk : Bool} (h : A.names = []) : usedS ⟨A, [], brk⟩ = 0 := by unfold usedS usedF; rw [h]; rfl
theorem blob_ok {b : List UInt8} {k : Int} {x : Bl} (h : blobB b k = some x) : rightB x = true ∧ x.size = b.length ∧ x.piece = k ∧ wholeB x b = true := by
  have h0 := h
  unfold blobB leavesB at h
  split at h
  · rename_i hr
    simp only [Option.map_some, Option.some.injEq] at h
    subst h
    refine ⟨?_, rfl, rfl, ?_⟩
    · simpa [rightB] using hr
    · unfold wholeB; simpa using h0
  · cases h
theorem blob_one : ∃ x, blobB [7] 16 = some x := by
  unfold blobB leavesB
  rw [if_pos (by decide)]
  exact ⟨_, rfl⟩
theorem span_one {x : Bl} (h : rightB x = true) (h1 : x.size = 1) (h2 : x.piece = 16) : spanB x 0 = some (0, 1) := by
  unfold spanB countB
  rw [if_pos h, h1, h2, if_neg (by omega)]
  simp
  omega
/-- How a store grows. -/
def SGrow (n : Nat) (s t : Sto) : Prop := t.A.states.length ≤ s.A.states.length + n ∧ t.A.writes.length ≤ s.A.writes.length + n
theorem grow_runs (ss : List Stp) (hs : ∀ sp ∈ ss, ∀ A e B, sp A e B → Grow1 A B) (A : Ab) (e : Nat) (B : Ab) (h : Runs ss A e B) : B.states.length ≤ A.states.length + ss.length ∧ B.writes.length ≤ A.writes.length + ss.length := by
  induction ss generalizing A with
  | nil => obtain ⟨_, rfl⟩ := h; exact ⟨Nat.le_refl _, Nat.le_refl _⟩
  | cons sp ss ih =>
    obtain ⟨e1, A1, h1, hc⟩ := h
    have g := hs sp (List.mem_cons_self ..) _ _ _ h1
    have g1 := g.1
    have g2 := g.2
    simp only [List.length_cons]
    rcases hc with ⟨_, _, rfl⟩ | ⟨_, h2⟩
    · omega
    · have := ih (fun s h => hs s (List.mem_cons_of_mem _ h)) A1 h2
      omega
theorem grow_chgS {ss : List Stp} (hs : ∀ sp ∈ ss, ∀ A e B, sp A e B → Grow1 A B) {s t : Sto} {e : Nat} (h : chgS ss s e t) : SGrow ss.length s t := by
  obtain ⟨B, h, rfl⟩ := h
  exact grow_runs ss hs _ _ _ h
theorem SGrow.mono {m n : Nat} {s t : Sto} (h : SGrow m s t) (hmn : m ≤ n) : SGrow n s t := ⟨by have := h.1; omega, by have := h.2; omega⟩
theorem SGrow.refl (n : Nat) (s : Sto) : SGrow n s s := ⟨by omega, by omega⟩
theorem BeginR_grow {q : Int} {x : Bl} {s t : Sto} {e : Nat} (h : BeginR q x s e t) : SGrow 2 s t := by
  unfold BeginR at h
  split at h
  · exact h.2 ▸ SGrow.refl _ _
  split at h
  · exact h.2 ▸ SGrow.refl _ _
  split at h
  · exact h.2 ▸ SGrow.refl _ _
  split at h
  · exact h.2 ▸ SGrow.refl _ _
  split at h
  · rw [h.2]; exact SGrow.refl 2 s
  · obtain ⟨e1, s1, hc, hd⟩ := h
    have g := grow_chgS (ss := [stCreate (fS x), stSyncNames]) (fun sp hsp A e B hh => by
      simp only [List.mem_cons, List.not_mem_nil, or_false] at hsp
      rcases hsp with rfl | rfl
      · exact grow_stCreate hh
      · exact grow_stSyncNames hh) hc
    rcases hd with ⟨_, _, rfl⟩ | ⟨_, _, rfl⟩ <;> exact g
theorem PutS_grow {x : Bl} {i : Int} {b : List UInt8} {s t : Sto} {e : Nat} (h : PutS x i b s e t) : SGrow 1 s t := by
  unfold PutS at h
  split at h
  · exact h.2 ▸ SGrow.refl _ _
  split at h
  · exact h.2 ▸ SGrow.refl _ _
  split at h
  · exact h.2 ▸ SGrow.refl _ _
  · exact grow_chgS (fun sp hsp A e B hh => by
      simp only [List.mem_cons, List.not_mem_nil, or_false] at hsp
      subst hsp
      exact grow_stWrite hh) h
theorem AbortS_grow {x : Bl} {s t : Sto} {e : Nat} (h : AbortS x s e t) : SGrow 1 s t := by
  unfold AbortS at h
  split at h
  · exact h.2 ▸ SGrow.refl _ _
  · obtain ⟨s1, hc, rfl⟩ := h
    have g := grow_chgS (fun sp hsp A e B hh => by
      simp only [List.mem_cons, List.not_mem_nil, or_false] at hsp
      subst hsp
      exact grow_stRemove hh) hc
    split <;> exact g
theorem InstallS_grow {x : Bl} {s t : Sto} {e : Nat} (h : InstallS x s e t) : SGrow 3 s t := by
  unfold InstallS at h
  split at h
  · exact h.2 ▸ SGrow.refl _ _
  split at h
  · obtain ⟨e1, h1, _⟩ := h
    exact (AbortS_grow h1).mono (by omega)
  · obtain ⟨s1, hc, rfl⟩ := h
    have g := grow_chgS (ss := moveS (fS x) (fB x)) (fun sp hsp A e B hh => by
      simp only [moveS, List.mem_cons, List.not_mem_nil, or_false] at hsp
      rcases hsp with rfl | rfl | rfl
      · exact grow_stSync hh
      · exact grow_stRename hh
      · exact grow_stSyncNames hh) hc
    split <;> exact g
theorem used_le {A : Ab} (h : HA A) (m : Nat) (hm : ∀ n c, vw A n = some c → c.length ≤ m) : A.used ≤ A.names.length * m := by
  unfold Ab.used
  refine sum_le_of A.names _ m fun x hx => ?_
  refine hm x.1 _ ?_
  unfold vw
  rw [look_of_mem h.keys hx]
  rfl
theorem usedS_one {A : Ab} {x : Bl} {f : Nat} {c : List UInt8} {brk : Bool} (h : HA A) (hn : A.names = [(fB x, f)]) (hv : vw A (fB x) = some c) : usedS ⟨A, [], brk⟩ = c.length := by
  have hl : A.look (fB x) = some f := look_of_mem h.keys (x := (fB x, f)) (by rw [hn]; exact List.mem_singleton.2 rfl)
  unfold vw at hv
  rw [hl] at hv
  injection hv with hv
  unfold usedS usedF
  simp only
  rw [hn]
  simp only [List.map_cons, List.map_nil, List.sum_cons, List.sum_nil]
  have : (hashN kB (fB x)).isSome = true := by unfold fB; rw [hashN_file]; rfl
  rw [if_pos this, hv]
  omega
theorem names_one {A : Ab} {n : ByteArray} {c : List UInt8} (h1 : A.names.length = 1) (hv : vw A n = some c) : Ab.delN A.names n = [] := by
  obtain ⟨f, hf⟩ : ∃ f, A.look n = some f := by
    unfold vw at hv
    cases hx : A.look n with
    | none => rw [hx] at hv; cases hv
    | some f => exact ⟨f, rfl⟩
  have hm := look_mem hf
  match hA : A.names, h1, hm with
  | [y], _, hm =>
    have : y = (n, f) := (List.mem_singleton.1 hm).symm
    subst this
    simp [Ab.delN]
theorem Open_first (X : HP) (hK : KAt X) (bd room : Nat) (q : Int) (hq : 1 ≤ q ∧ q ≤ 1073741824) : Ctr Tryz.prog 13 [ptr bd, .int .i64 q] [diskA bd (Ab.new room), X]
    (fun r H => ∃ bs mb, r = .tuple #[ptr bs, .int .i64 0] ∧ H = stoL bs bd q mb ⟨Ab.new room, [], false⟩ ++ [X]) :=
  (Open_any' X hK bd q (Ab.new room) (by show 1 ≤ _; omega)).post (by
    rintro r H (⟨h, _⟩ | ⟨_, h, _⟩ | ⟨_, _, e, B, ho, hc⟩)
    · exfalso; omega
    · cases h
    · obtain ⟨rfl, rfl⟩ := Open_new rfl ho
      rcases hc with ⟨hne, _⟩ | ⟨_, _, bs, mb, rfl, rfl⟩
      · exact absurd rfl hne
      · exact ⟨bs, mb, rfl, rfl⟩)
theorem one_BAt (b : Nat) (x : UInt8) : BAt (pts b (cl (bV [x]) 5)) (.slice (some ⟨b, 0, none⟩) 1 1) [x] := ⟨Vw.pts rfl, _, _, rfl, Nat.le_refl _⟩
set_option maxRecDepth 20000 in
set_option maxHeartbeats 1000000 in
theorem awake_any (X : HP) (hK : KAt X) : Ctr Tryz.prog 10 [] [X] (fun r H => r = .bool true ∧ H = [X]) := by
  obtain ⟨x, hx⟩ := blob_one
  obtain ⟨hr, hsz, hpc, hwh⟩ := blob_ok hx
  have hsp := span_one hr hsz hpc
  refine Ctr.enter Tryz.func10 (by kernel_rfl) rfl Tryz.ntmps10 rfl rfl ?_
  intro G F R hE
  (refine go ?_)
  (first | refine J_callE rfl rfl rfl rfl (New_dA 10000 (by omega) (by omega)) entA ?_ (fun _ _ _ _ _ => trivial) | refine J_call0E rfl rfl rfl (New_dA 10000 (by omega) (by omega)) entA ?_ (fun _ _ _ _ _ => trivial) | (refine go ?_; first | refine J_callE rfl rfl rfl rfl (New_dA 10000 (by omega) (by omega)) entA ?_ (fun _ _ _ _ _ => trivial) | refine J_call0E rfl rfl rfl (New_dA 10000 (by omega) (by omega)) entA ?_ (fun _ _ _ _ _ => trivial)))
  rintro _ _ ⟨bd, rfl, rfl⟩
  (refine go ?_)
  (first | refine J_callE rfl rfl rfl rfl (Open_first X hK bd 10000 1000 (by omega)) entA ?_ (fun _ _ _ _ _ => trivial) | refine J_call0E rfl rfl rfl (Open_first X hK bd 10000 1000 (by omega)) entA ?_ (fun _ _ _ _ _ => trivial) | (refine go ?_; first | refine J_callE rfl rfl rfl rfl (Open_first X hK bd 10000 1000 (by omega)) entA ?_ (fun _ _ _ _ _ => trivial) | refine J_call0E rfl rfl rfl (Open_first X hK bd 10000 1000 (by omega)) entA ?_ (fun _ _ _ _ _ => trivial)))
  rintro _ _ ⟨bs, mb, rfl, rfl⟩
  (refine go ?_)
  refine J_buildSlice1 (U := tab) (cs := bV [7]) rfl rfl rfl rfl rfl rfl rfl rfl rfl (fun _ _ _ => trivial) ?_
  intro row
  have hbl := Blob_ref _ _ [7] (one_BAt row 7) (by decide) 16
  rw [hx] at hbl
  (first | refine J_callE rfl rfl rfl rfl (hbl) entA ?_ (fun _ _ _ _ _ => trivial) | refine J_call0E rfl rfl rfl (hbl) entA ?_ (fun _ _ _ _ _ => trivial) | (refine go ?_; first | refine J_callE rfl rfl rfl rfl (hbl) entA ?_ (fun _ _ _ _ _ => trivial) | refine J_call0E rfl rfl rfl (hbl) entA ?_ (fun _ _ _ _ _ => trivial)))
  rintro _ _ ⟨rfl, rfl⟩
  unfold blV
  (refine go ?_)
  refine J_alloc (U := tab) rfl rfl rfl (fun _ _ _ => trivial) ?_
  intro b5
  (refine go ?_)
  refine J_loadArr (U := tab) (l := blC x) 0 rfl rfl rfl rfl rfl rfl ?_
  have hbg := Begin_bl bs bd 1000 (by omega) mb ⟨Ab.new 10000, [], false⟩ x ⟨by simp, by simp⟩ (by show 1 ≤ _; omega) (by show 0 ≤ _; omega)
  unfold blV at hbg
  (first | refine J_callE rfl rfl rfl rfl (hbg) entA ?_ (fun _ _ _ _ _ => trivial) | refine J_call0E rfl rfl rfl (hbg) entA ?_ (fun _ _ _ _ _ => trivial) | (refine go ?_; first | refine J_callE rfl rfl rfl rfl (hbg) entA ?_ (fun _ _ _ _ _ => trivial) | refine J_call0E rfl rfl rfl (hbg) entA ?_ (fun _ _ _ _ _ => trivial)))
  rintro _ _ ⟨e1, s1, rfl, rfl, hR1⟩
  obtain ⟨rfl, a1, b1, c1, v1, n1, r1⟩ := Begin_ok (HA.new 10000) rfl hr rfl rfl (by rw [usedS_none rfl, hsz]; decide) rfl (by decide) hR1
  have g1 := BeginR_grow hR1
  have hop1 : begL s1.beg x.d = some x := by rw [c1]; simp [begL]
  (refine go ?_)
  refine J_loadArr (U := tab) (l := blC x) 3 rfl rfl rfl rfl rfl rfl ?_
  refine J_buildSlice1 (U := tab) (cs := bV [7]) rfl rfl rfl rfl rfl rfl rfl rfl rfl (fun _ _ _ => trivial) ?_
  intro row2
  have g11 : s1.A.states.length ≤ 1 + 2 := g1.1
  have g12 : s1.A.writes.length ≤ 0 + 2 := g1.2
  have hpt := Put_bl (pts row2 (cl (bV [7]) 5)) bs bd 1000 mb s1 x 0 (.slice (some ⟨row2, 0, none⟩) 1 1) [7] (Vw.pts rfl) (by decide) (by omega) (by omega) (by omega)
  unfold blV at hpt
  (first | refine J_callE rfl rfl rfl rfl (hpt) entA ?_ (fun _ _ _ _ _ => trivial) | refine J_call0E rfl rfl rfl (hpt) entA ?_ (fun _ _ _ _ _ => trivial) | (refine go ?_; first | refine J_callE rfl rfl rfl rfl (hpt) entA ?_ (fun _ _ _ _ _ => trivial) | refine J_call0E rfl rfl rfl (hpt) entA ?_ (fun _ _ _ _ _ => trivial)))
  rintro _ _ ⟨e2, s2, rfl, rfl, hR2⟩
  have hv1 : vw s1.A (fS x) = some [] := by rw [v1, if_pos rfl]
  have hu1 : s1.A.used ≤ s1.A.names.length * 0 := used_le a1 0 (fun n c hn => by
    rw [v1] at hn
    split at hn
    · injection hn with hn; subst hn; exact Nat.le_refl _
    · cases hn)
  have hrm1 : s1.A.room = 10000 := r1
  obtain ⟨rfl, a2, b2, c2, v2, n2, r2⟩ := Put_ok a1 b1 hop1 hsp rfl hv1 (by simp) (by rw [hrm1]; simp at hu1 ⊢; omega) hR2
  have g2 := PutS_grow hR2
  have g21 := g2.1
  have g22 := g2.2
  have hop2 : begL s2.beg x.d = some x := by rw [c2]; exact hop1
  have hrm2 := r2
  have hv2 : vw s2.A (fS x) = some [7] := by rw [v2, if_pos rfl]; rfl
  have hB2 : vw s2.A (fB x) = none := by rw [v2, if_neg (fun h => fS_ne_fB x x h.symm), v1, if_neg (fun h => fS_ne_fB x x h.symm)]; rfl
  (refine go ?_)
  refine J_loadArr (U := tab) (l := blC x) 4 rfl rfl rfl rfl rfl rfl ?_
  have hin := Install_bl X hK bs bd 1000 mb s2 x (by omega) (by omega)
  unfold blV at hin
  (first | refine J_callE rfl rfl rfl rfl (hin) entA ?_ (fun _ _ _ _ _ => trivial) | refine J_call0E rfl rfl rfl (hin) entA ?_ (fun _ _ _ _ _ => trivial) | (refine go ?_; first | refine J_callE rfl rfl rfl rfl (hin) entA ?_ (fun _ _ _ _ _ => trivial) | refine J_call0E rfl rfl rfl (hin) entA ?_ (fun _ _ _ _ _ => trivial)))
  rintro _ _ ⟨e3, s3, rfl, rfl, hR3⟩
  obtain ⟨rfl, a3, b3, c3, v3, r3, f3, n3⟩ := Install_ok a2 b2 hop2 hv2 hB2 hwh hR3
  have hn2 : s2.A.names.length = 1 := by rw [n2, n1]; rfl
  have hn3 : s3.A.names = [(fB x, f3)] := by rw [n3, names_one hn2 hv2]; rfl
  have hv3 : vw s3.A (fB x) = some [7] := by rw [v3, if_pos rfl]
  have hbg3 : s3.beg = [] := by rw [c3, c2, c1]; simp [delB]
  have hus : usedS s3 = 1 := by
    have := usedS_one (brk := s3.brk) a3 hn3 hv3
    obtain ⟨A3, beg3, brk3⟩ := s3
    simp only at hbg3
    subst hbg3
    exact this
  have hus2 := Used_bl bs bd 1000 mb s3 (by rw [hbg3]; exact ⟨by simp, by simp⟩)
  rw [hus] at hus2
  have hhs := Has_any bs bd 1000 mb s3.brk s3.A x.d
  rw [hasF_vw, show vw s3.A (fileN kB x.d) = some [7] from hv3] at hhs
  unfold dV at hhs
  (refine go ?_)
  refine J_loadAgg (U := tab) 5 rfl rfl rfl rfl rfl rfl ?_
  (first | refine J_callE rfl rfl rfl rfl (hhs) entA ?_ (fun _ _ _ _ _ => trivial) | refine J_call0E rfl rfl rfl (hhs) entA ?_ (fun _ _ _ _ _ => trivial) | (refine go ?_; first | refine J_callE rfl rfl rfl rfl (hhs) entA ?_ (fun _ _ _ _ _ => trivial) | refine J_call0E rfl rfl rfl (hhs) entA ?_ (fun _ _ _ _ _ => trivial)))
  rintro _ _ ⟨rfl, rfl⟩
  (refine go ?_)
  (first | refine J_callE rfl rfl rfl rfl (hus2) entA ?_ (fun _ _ _ _ _ => trivial) | refine J_call0E rfl rfl rfl (hus2) entA ?_ (fun _ _ _ _ _ => trivial) | (refine go ?_; first | refine J_callE rfl rfl rfl rfl (hus2) entA ?_ (fun _ _ _ _ _ => trivial) | refine J_call0E rfl rfl rfl (hus2) entA ?_ (fun _ _ _ _ _ => trivial)))
  rintro _ _ ⟨rfl, rfl⟩
  (refine go ?_)
  (first | refine K_return hE Tryz.func10 rfl _ rfl ⟨rfl, rfl⟩ entA | refine K_fallEnd hE Tryz.func10 rfl _ rfl ⟨rfl, rfl⟩ entA)
end Go.Proofs.YtpecmnaikjbanaaGreatDoor

/- blobs, plain: the rounds of the law Spoilt. -/
set_option linter.unusedVariables false
set_option linter.unusedSimpArgs false
namespace Go.Proofs.YtpecmnaikjbanaaGreatDoor
open Go Go.SL
/-- Between rounds nothing is there. -/
structure Clear (s : Sto) : Prop where
  ha : HA s.A
  room : s.A.room = 16777216
  brk : s.brk = false
  beg : s.beg = []
  names : s.A.names = []
theorem Clear.vw {s : Sto} (h : Clear s) (n : ByteArray) : vw s.A n = none := by
  unfold Proofs.YtpecmnaikjbanaaGreatDoor.vw Ab.look Ab.lookIn
  rw [h.names]
  rfl
theorem Clear.new : Clear ⟨Ab.new 16777216, [], false⟩ := ⟨HA.new _, rfl, rfl, rfl, rfl⟩
/-- While pieces of a blob are put in: so many bytes are there. -/
structure Half (y : Bl) (w : List UInt8) (i : Nat) (s : Sto) : Prop where
  ha : HA s.A
  room : s.A.room = 16777216
  brk : s.brk = false
  beg : s.beg = [(y.d, y)]
  names : s.A.names.length = 1
  has : ∀ n, vw s.A n = if n = fS y then some (w.take (i * y.piece.toNat)) else none
theorem Half.open {y : Bl} {w : List UInt8} {i : Nat} {s : Sto} (h : Half y w i s) : begL s.beg y.d = some y := by rw [h.beg]; simp [begL]
theorem Half.begin {y : Bl} {w : List UInt8} {s t : Sto} {e : Nat} (h : Clear s) (hr : rightB y = true) (hR : BeginR 1048576 y s e t) : e = 0 ∧ Half y w 0 t := by
  have hrs := hr
  simp only [rightB, decide_eq_true_eq] at hrs
  have hus : usedS s = 0 := by
    have := usedS_none (brk := s.brk) h.names
    obtain ⟨A, beg, brk⟩ := s
    have hb := h.beg
    simp only at hb
    subst hb
    exact this
  obtain ⟨rfl, a1, b1, c1, v1, n1, r1⟩ := Begin_ok h.ha h.brk hr (by rw [h.beg]; rfl) (h.vw _) (by rw [hus]; omega) (h.vw _) (by rw [h.names]; decide) hR
  refine ⟨rfl, a1, r1.trans h.room, b1, by rw [c1, h.beg]; rfl, by rw [n1, h.names]; rfl, fun n => ?_⟩
  rw [v1, h.vw n]
  simp
theorem wroteL_add (C b : List UInt8) : wroteL C C.length b = C ++ b := by
  unfold wroteL
  simp
theorem Half.put {y : Bl} {w : List UInt8} {i : Nat} {s t : Sto} {e : Nat} {at_ n : Int} (h : Half y w i s) (hr : rightB y = true) (hw : (w.length : Int) = y.size) (hsp : spanB y i = some (at_, n)) (hR : PutS y i ((w.drop at_.toNat).take n.toNat) s e t) : Half y w (i + 1) t := by
  have hrs := hr
  simp only [rightB, decide_eq_true_eq] at hrs
  have hpp : ((y.piece.toNat : Nat) : Int) = y.piece := by omega
  unfold spanB at hsp
  split at hsp
  · cases hsp
  rename_i hlt
  obtain ⟨_, h0, h1⟩ := span_lt (x := y) (i := (i : Int)) (by omega) (by omega)
  injection hsp with hsp
  injection hsp with ha hn
  have hat : at_ = ((i * y.piece.toNat : Nat) : Int) := by rw [← ha, Int.natCast_mul, hpp]
  obtain ⟨a, haa⟩ : ∃ a : Nat, a = i * y.piece.toNat := ⟨_, rfl⟩
  rw [← haa] at hat
  have hia : (i : Int) * y.piece = a := by rw [ha, hat]
  rw [hia] at h0 h1 hn
  have hnn : 0 ≤ n ∧ n ≤ y.size - a ∧ n ≤ y.piece ∧ (n = y.piece ∨ n = y.size - a) := by omega
  obtain ⟨m, hm⟩ : ∃ m : Nat, (m : Int) = n := ⟨n.toNat, by omega⟩
  subst hm
  have hlen : ((w.drop at_.toNat).take ((m : Int)).toNat).length = m := by
    rw [List.length_take, List.length_drop, hat]
    omega
  have hsp2 : spanB y i = some (at_, (m : Int)) := by
    unfold spanB
    rw [if_neg hlt, hia, hn, hat]
  have hhas : vw s.A (fS y) = some (w.take a) := by rw [h.has, if_pos rfl, haa]
  have hul : s.A.used ≤ s.A.names.length * 1048576 := used_le h.ha _ (fun n c hc => by
    rw [h.has] at hc
    split at hc
    · injection hc with hc
      rw [← hc, List.length_take]
      omega
    · cases hc)
  rw [h.names] at hul
  have hrm := h.room
  obtain ⟨-, a1, b1, c1, v1, n1, r1⟩ := Put_ok h.ha h.brk h.open hsp2 (by rw [hlen]) hhas (by rw [hlen]; omega) (by rw [hlen]; omega) hR
  refine ⟨a1, r1.trans h.room, b1, c1.trans h.beg, by rw [n1]; exact h.names, fun n => ?_⟩
  rw [v1]
  by_cases hnf : n = fS y
  · rw [if_pos hnf, if_pos hnf]
    have hta : (w.take a).length = a := by rw [List.length_take]; omega
    have h3 : at_.toNat = (w.take a).length := by rw [hta, hat]; rfl
    have h4 : wroteL (w.take a) at_.toNat ((w.drop at_.toNat).take ((m : Int)).toNat) = w.take a ++ (w.drop a).take m := by
      rw [h3, wroteL_add, hta]; rfl
    rw [h4]
    congr 1
    rw [← List.take_add, Nat.add_mul, Nat.one_mul, ← haa]
    rcases hnn.2.2.2 with hp | hp
    · congr 1; omega
    · rw [List.take_of_length_le (by omega), List.take_of_length_le (by omega)]
  · rw [if_neg hnf, if_neg hnf, h.has, if_neg hnf]
theorem Half.full {y : Bl} {w : List UInt8} {s : Sto} {i : Nat} (h : Half y w i s) (hr : rightB y = true) (hw : (w.length : Int) = y.size) (hi : countB y ≤ i) : vw s.A (fS y) = some w := by
  have hrs := hr
  simp only [rightB, decide_eq_true_eq] at hrs
  rw [h.has, if_pos rfl]
  congr 1
  refine List.take_of_length_le ?_
  unfold countB at hi
  rw [if_pos hr] at hi
  have h1 : y.size ≤ (i : Int) * y.piece := by
    have h2 := Int.mul_ediv_add_emod (y.size + y.piece - 1) y.piece
    have h3 := Int.emod_lt_of_pos (y.size + y.piece - 1) (by omega : 0 < y.piece)
    have h4 : y.piece * ((y.size + y.piece - 1) / y.piece) ≤ y.piece * i := Int.mul_le_mul_of_nonneg_left hi (by omega)
    rw [Int.mul_comm (i : Int)]
    omega
  have h5 : ((i * y.piece.toNat : Nat) : Int) = (i : Int) * y.piece := by rw [Int.natCast_mul]; congr 1; omega
  omega
theorem Half.bad {y : Bl} {w : List UInt8} {s t : Sto} {e i : Nat} (h : Half y w i s) (hv : vw s.A (fS y) = some w) (hw : wholeB y w = false) (hR : InstallS y s e t) : e = 8 ∧ Clear t := by
  obtain ⟨rfl, a1, b1, c1, v1, n1, r1⟩ := Install_bad h.ha h.brk h.open hv hw hR
  exact ⟨rfl, a1, r1.trans h.room, b1, by rw [c1, h.beg]; simp [delB], by rw [n1]; exact names_one h.names hv⟩
theorem Half.good {y : Bl} {w : List UInt8} {s t : Sto} {e i : Nat} (h : Half y w i s) (hv : vw s.A (fS y) = some w) (hw : wholeB y w = true) (hR : InstallS y s e t) : e = 0 ∧ hasF t.A (fB y) = true := by
  obtain ⟨rfl, a1, b1, c1, v1, r1, f, n1⟩ := Install_ok h.ha h.brk h.open hv (by rw [h.has, if_neg (fun h => fS_ne_fB y y h.symm)]) hw hR
  exact ⟨rfl, by rw [hasF_vw, v1, if_pos rfl]; rfl⟩
theorem Clear.none {s : Sto} (h : Clear s) (y : Bl) : hasF s.A (fB y) = false ∧ usedS s = 0 := by
  refine ⟨by rw [hasF_vw, h.vw]; rfl, ?_⟩
  have := usedS_none (brk := s.brk) h.names
  obtain ⟨A, beg, brk⟩ := s
  have hb := h.beg
  simp only at hb
  subst hb
  exact this
end Go.Proofs.YtpecmnaikjbanaaGreatDoor

/- blobs: bytes turned. -/
set_option linter.unusedVariables false
set_option linter.unusedSimpArgs false
namespace Go.Proofs.YtpecmnaikjbanaaGreatDoor
open Go Go.SL
theorem wrap8 (k : Int) : ∃ z : UInt8, Value.int .u8 (IntKind.u8.wrap k) = u8 z := by
  refine ⟨UInt8.ofNat (k % 256).toNat, ?_⟩
  simp [u8, IntKind.wrap, IntKind.bits, IntKind.signed]
  omega
section
variable {P : Program} {U : Tr} [hU : TabOk P U] {f : FuncId} {n : Nat} {R : Ending → World → Prop} {G : Glob} {k : List Item} {L : Lst} {H H' : List HP} {S : World → Prop} {all : Array Oper} {rest : Pl}
  {ty : TypeId} {pos : String} {af : Array Edge} {gd : Option (Nat × Bool)} {m : Bool} {d : Tmp}
theorem J_xor8 {t yt : TypeId} {x y : Operand} {p q : UInt8} (hd : Nat.blt d n = true) (hx : ev L x = some (u8 p)) (hy : ev L y = some (u8 q))
    (h : ∀ z : UInt8, J P f n R G S all rest k ((d, u8 z) :: L) H) : J P f n R G S all (.cons m true ⟨some d, .binOp .xor t x y yt, ty, pos, af, gd⟩ rest) k L H := by
  obtain ⟨z, hz⟩ := wrap8 ((BitVec.ofInt IntKind.u8.bits (p.toNat : Int) ^^^ BitVec.ofInt IntKind.u8.bits (q.toNat : Int)).toNat : Int)
  refine J_pure hd (fun a ha w => ?_) (h z)
  rw [← hz]
  have hx' : ev L x = some (.int .u8 (p.toNat : Int)) := hx
  have hy' : ev L y = some (.int .u8 (q.toNat : Int)) := hy
  simp [execOp, ha.ev hx', ha.ev hy', eqGuard, binOp, Op.intBits]
end
end Go.Proofs.YtpecmnaikjbanaaGreatDoor

/- blobs: the law Spoilt, its walk. -/
set_option linter.unusedVariables false
set_option linter.unusedSimpArgs false
namespace Go.Proofs.YtpecmnaikjbanaaGreatDoor
open Go Go.SL
attribute [local irreducible] J K Ctr Ends pts slc mapR mapI sbRow stock arrS loopP CtrY Sha.chunks Sha.chunk Sha.rounds Sha.sched sumL taggedL GI leafL diskA
set_option maxRecDepth 20000 in
set_option maxHeartbeats 1000000 in
theorem Spoilt_any (X : HP) (hK : KAt X) (bv : Value) (b : List UInt8) (hv : BAt X bv b) (hl : b.length ≤ 9223372036854775807) (piece p0 p1 : Int) (hp0 : -9223372036854775808 ≤ p0 ∧ p0 ≤ 9223372036854775807) (hp1 : -9223372036854775808 ≤ p1 ∧ p1 ≤ 9223372036854775807) :
    Ctr Tryz.prog 3 [bv, .int .i64 piece, .agg #[.int .i64 p0, .int .i64 p1] ] [X] (fun r H => r = .bool true ∧ H = [X]) := by
  obtain ⟨a0, c0, rfl, hc0⟩ := hv.2
  refine Ctr.enter Tryz.func3 (by kernel_rfl) rfl Tryz.ntmps3 rfl rfl ?_
  intro G F R hE
  refine K_regionA rfl ?_
  refine J_box rfl rfl (fun _ _ _ => trivial) ?_
  intro b5
  (refine go ?_)
  (first | refine J_callE rfl rfl rfl rfl (awake_any X hK) entA ?_ (fun _ _ _ _ _ => trivial) | refine J_call0E rfl rfl rfl (awake_any X hK) entA ?_ (fun _ _ _ _ _ => trivial) | (refine go ?_; first | refine J_callE rfl rfl rfl rfl (awake_any X hK) entA ?_ (fun _ _ _ _ _ => trivial) | refine J_call0E rfl rfl rfl (awake_any X hK) entA ?_ (fun _ _ _ _ _ => trivial)))
  rintro _ _ ⟨rfl, rfl⟩
  (refine go ?_)
  (first | refine J_callE rfl rfl rfl rfl (New_dA 16777216 (by omega) (by omega)) entA ?_ (fun _ _ _ _ _ => trivial) | refine J_call0E rfl rfl rfl (New_dA 16777216 (by omega) (by omega)) entA ?_ (fun _ _ _ _ _ => trivial) | (refine go ?_; first | refine J_callE rfl rfl rfl rfl (New_dA 16777216 (by omega) (by omega)) entA ?_ (fun _ _ _ _ _ => trivial) | refine J_call0E rfl rfl rfl (New_dA 16777216 (by omega) (by omega)) entA ?_ (fun _ _ _ _ _ => trivial)))
  rintro _ _ ⟨bd, rfl, rfl⟩
  obtain ⟨cq, hcq⟩ := wrap8 p1
  repeat' (first | (with_reducible intro _hh) | refine go1 ?_ | refine J_fork ?_ ?_ | refine J_gsP rfl rfl rfl rfl ?_ ?_ | refine K_condP rfl rfl ?_ ?_ | refine J_arrAt (U := tab) 0 rfl rfl rfl rfl rfl rfl rfl rfl (by decide) ?_ | refine J_arrAt (U := tab) 1 rfl rfl rfl rfl rfl rfl rfl rfl (by decide) ?_ | (refine J_convW (U := tab) rfl rfl rfl rfl rfl rfl ?_; refine J_slot 56 (u8 cq) rfl hcq ?_))
  all_goals (first | ((first | refine K_return hE Tryz.func3 rfl _ rfl ⟨rfl, rfl⟩ entA | refine K_fallEnd hE Tryz.func3 rfl _ rfl ⟨rfl, rfl⟩ entA)) | skip)
  have hlb : b.length ≠ 0 := by omega
  have hl2 : b.length ≤ 2000 := by omega
  have hp0' : 0 ≤ p0 := by omega
  have hbl := Blob_ref X _ b hv (by omega) piece
  have hopn := Open_first X hK bd 16777216 1048576 (by omega)
  cases hy : blobB b piece with
  | none =>
    rw [hy] at hbl
    (first | refine J_callE rfl rfl rfl rfl (hbl) entA ?_ (fun _ _ _ _ _ => trivial) | refine J_call0E rfl rfl rfl (hbl) entA ?_ (fun _ _ _ _ _ => trivial) | (refine go ?_; first | refine J_callE rfl rfl rfl rfl (hbl) entA ?_ (fun _ _ _ _ _ => trivial) | refine J_call0E rfl rfl rfl (hbl) entA ?_ (fun _ _ _ _ _ => trivial)))
    rintro _ _ ⟨rfl, rfl⟩
    unfold blV
    (refine go ?_)
    refine J_alloc (U := tab) rfl rfl rfl (fun _ _ _ => trivial) ?_
    intro b10
    (refine go ?_)
    (first | refine J_callE rfl rfl rfl rfl (hopn) entA ?_ (fun _ _ _ _ _ => trivial) | refine J_call0E rfl rfl rfl (hopn) entA ?_ (fun _ _ _ _ _ => trivial) | (refine go ?_; first | refine J_callE rfl rfl rfl rfl (hopn) entA ?_ (fun _ _ _ _ _ => trivial) | refine J_call0E rfl rfl rfl (hopn) entA ?_ (fun _ _ _ _ _ => trivial)))
    rintro _ _ ⟨bs, mb, rfl, rfl⟩
    (refine go ?_)
    refine K_ent (H' := X :: F) entA ?_
    (first | refine K_return hE Tryz.func3 rfl _ rfl ⟨rfl, rfl⟩ entA | refine K_fallEnd hE Tryz.func3 rfl _ rfl ⟨rfl, rfl⟩ entA)
  | some y =>
    rw [hy] at hbl
    obtain ⟨hr, hsz, hpc, hwh⟩ := blob_ok hy
    (first | refine J_callE rfl rfl rfl rfl (hbl) entA ?_ (fun _ _ _ _ _ => trivial) | refine J_call0E rfl rfl rfl (hbl) entA ?_ (fun _ _ _ _ _ => trivial) | (refine go ?_; first | refine J_callE rfl rfl rfl rfl (hbl) entA ?_ (fun _ _ _ _ _ => trivial) | refine J_call0E rfl rfl rfl (hbl) entA ?_ (fun _ _ _ _ _ => trivial)))
    rintro _ _ ⟨rfl, rfl⟩
    unfold blV
    (refine go ?_)
    refine J_alloc (U := tab) rfl rfl rfl (fun _ _ _ => trivial) ?_
    intro b10
    (refine go ?_)
    (first | refine J_callE rfl rfl rfl rfl (hopn) entA ?_ (fun _ _ _ _ _ => trivial) | refine J_call0E rfl rfl rfl (hopn) entA ?_ (fun _ _ _ _ _ => trivial) | (refine go ?_; first | refine J_callE rfl rfl rfl rfl (hopn) entA ?_ (fun _ _ _ _ _ => trivial) | refine J_call0E rfl rfl rfl (hopn) entA ?_ (fun _ _ _ _ _ => trivial)))
    rintro _ _ ⟨bs, mb, rfl, rfl⟩
    (refine goR ?_)
    (refine go ?_)
    refine J_buildSlice1 (U := tab) (cs := []) rfl rfl rfl rfl rfl rfl rfl rfl rfl (fun _ _ _ => trivial) ?_
    intro b0
    refine J_ent (H' := pts b0 (cl [] 5) :: pts b5 (cl [.int .i64 p0, .int .i64 p1] 23) :: X :: pts b10 (cl (blC y) 32) :: pts bs (cl (stC bd 1048576 mb false) 92) :: mapR dV mb (begE []) :: diskA bd (Ab.new 16777216) :: F) entA ?_
    (refine go ?_)
    (refine J_ent (slc_row 5 1 b0 0 0 [] [] _ rfl (Nat.le_refl _) (by simp)) ?_; refine J_append (U := tab) (mm := (b).length) (news := bV (b)) 0 2 rfl rfl rfl rfl rfl rfl rfl rfl rfl rfl rfl rfl (hv.1) (by show _ = _ * 1; rw [bV_length]; omega) (bV_one _) (by omega) (by show (_ + _) * 1 ≤ _; omega) (fun _ => rfl) (fun _ _ _ => trivial) ?_; intro vA; rw [Nat.zero_add, List.nil_append]; (first | refine J_shape 0 rfl ?_ | refine K_shape 0 rfl ?_); rintro aA cA rfl)
    try rw [Nat.zero_add b.length]
    refine J_ent (H' := slc 5 1 (.slice aA b.length cA) b.length (bV b) :: pts b5 (cl [.int .i64 p0, .int .i64 p1] 23) :: X :: pts b10 (cl (blC y) 32) :: pts bs (cl (stC bd 1048576 mb false) 92) :: mapR dV mb (begE []) :: diskA bd (Ab.new 16777216) :: F) (Ent.refl _) ?_
    obtain ⟨k0, hk0⟩ : ∃ k0 : Nat, p0 % (b.length : Int) = k0 := ⟨(p0 % (b.length : Int)).toNat, by have := Int.emod_nonneg p0 (b := (b.length : Int)) (by omega); omega⟩
    have hkl : k0 < b.length := by have := Int.emod_lt_of_pos p0 (b := (b.length : Int)) (by omega); omega
    refine J_slcVw 0 rfl ?_
    intro hvw
    obtain ⟨bb, oo, cc, hsl⟩ := hvw.some (by intro h; have := congrArg List.length h; rw [bV_length] at this; simp at this; exact hlb (by rw [this]; rfl))
    simp only [Value.slice.injEq] at hsl
    obtain ⟨rfl, -, rfl⟩ := hsl
    (refine go ?_)
    refine K_drawA (fun w => Sat G w ([slc 5 1 (.slice (some ⟨bb, oo, none⟩) b.length cA) b.length (bV b), pts b5 (cl [.int .i64 p0, .int .i64 p1] 23)])) (.st 0 (.st 1 (.st 2 (.st 3 (.st 4 (.st 5 (.st 6 (.st 7 (.st 8 (.st 9 (.st 10 (.st 11 (.st 12 (.act 13 .nil)))))))))))))) rfl (by kernel_rfl) (by kernel_rfl) (by kernel_rfl) (fun w hw => hw.ent entA) ?_
    obtain ⟨cb, hcb⟩ : ∃ cb, b[k0]? = some cb := ⟨b[k0], List.getElem?_eq_getElem hkl⟩
    have hcell : (bV b)[k0]? = some (u8 cb) := by unfold bV; rw [List.getElem?_map, hcb]; rfl
    (repeat (first | refine go1 ?_ | refine J_fork ?_ ?_ | refine J_arrAt (U := tab) 0 rfl rfl rfl rfl rfl rfl rfl rfl (by decide) ?_))
    refine J_rem rfl rfl rfl hp0' (by omega) ?_
    refine J_slot 91 (.int .i64 (k0 : Int)) rfl (congrArg (Value.int .i64) hk0) ?_
    (refine go ?_)
    refine J_at1 (U := tab) k0 rfl rfl rfl rfl rfl rfl rfl rfl hkl ?_
    refine J_isLoad ?_
    refine J_loadAtS (U := tab) 0 k0 rfl rfl rfl hvw rfl hcell rfl rfl ?_
    (refine go ?_)
    refine J_arrAt (U := tab) 1 rfl rfl rfl rfl rfl rfl rfl rfl (by decide) ?_
    (refine go ?_)
    refine J_convW (U := tab) rfl rfl rfl rfl rfl rfl ?_
    refine J_slot 96 (u8 cq) rfl hcq ?_
    refine J_xor8 rfl rfl rfl ?_
    intro z
    refine J_at1 (U := tab) k0 rfl rfl rfl rfl rfl rfl rfl rfl hkl ?_
    (refine go ?_)
    refine J_storeSlc (U := tab) (q := k0) 0 (fun w hw => by exact trivial) rfl rfl rfl rfl rfl rfl rfl hkl rfl ?_
    obtain ⟨c, hc⟩ : ∃ c, c = b.set k0 z := ⟨_, rfl⟩
    have hcl : c.length = b.length := by rw [hc, List.length_set]
    have hset : (bV b).set k0 (u8 z) = bV c := by rw [hc]; unfold bV; rw [List.map_set]
    refine J_ent (H' := slc 5 1 (.slice (some ⟨bb, oo, none⟩) b.length cA) c.length (bV c) :: pts b5 (cl [.int .i64 p0, .int .i64 p1] 23) :: X :: pts b10 (cl (blC y) 32) :: pts bs (cl (stC bd 1048576 mb false) 92) :: mapR dV mb (begE []) :: diskA bd (Ab.new 16777216) :: F) (by rw [hcl, ← hset]; exact Ent.refl _) ?_
    refine J_slcB (bs := c) 0 rfl ?_
    intro hcb2
    obtain ⟨C, hC⟩ : ∃ C, C = slc 5 1 (.slice (some ⟨bb, oo, none⟩) b.length cA) c.length (bV c) := ⟨_, rfl⟩
    rw [← hC] at hcb2 ⊢
    have hwr := Whole_ref C y _ c hcb2 (by omega)
    unfold blV at hwr
    (refine go ?_)
    refine J_loadArr (U := tab) (l := blC y) 3 rfl rfl rfl rfl rfl rfl ?_
    (first | refine J_callE rfl rfl rfl rfl (hwr) entA ?_ (fun _ _ _ _ _ => trivial) | refine J_call0E rfl rfl rfl (hwr) entA ?_ (fun _ _ _ _ _ => trivial) | (refine go ?_; first | refine J_callE rfl rfl rfl rfl (hwr) entA ?_ (fun _ _ _ _ _ => trivial) | refine J_call0E rfl rfl rfl (hwr) entA ?_ (fun _ _ _ _ _ => trivial)))
    rintro _ _ ⟨rfl, rfl⟩
    cases hwc : wholeB y c with
    | true =>
      (refine go ?_)
      refine K_ent (H' := X :: F) entA ?_
      (first | refine K_return hE Tryz.func3 rfl _ rfl ⟨rfl, rfl⟩ entA | refine K_fallEnd hE Tryz.func3 rfl _ rfl ⟨rfl, rfl⟩ entA)
    | false =>
      (refine go ?_)
      refine K_loop (fun g : Nat × Sto => g.1 ≤ 2 ∧ g.2.A.states.length ≤ 1 + g.1 * 3000 ∧ g.2.A.writes.length ≤ g.1 * 3000 ∧ (g.1 < 2 → Clear g.2) ∧ (g.1 = 2 → hasF g.2.A (fB y) = true)) (fun g => 2 - g.1)
        (fun g => [(0, .slice a0 b.length c0), (10, ptr b10), (12, ptr bs), (13, .slice (some ⟨bb, oo, none⟩) b.length cA), (15, .int .i64 (g.1 : Int))])
        (fun g => C :: X :: pts b10 (cl (blC y) 32) :: (stoL bs bd 1048576 mb g.2 ++ F)) (0, ⟨Ab.new 16777216, [], false⟩) ⟨by decide, by show 1 ≤ _; omega, by show 0 ≤ _; omega, fun _ => Clear.new, fun h => by cases h⟩ rfl (by repeat (first | exact keep_nil | refine keep_cons rfl ?_)) entA ?_
      rintro ⟨t, s⟩ ⟨ht, hst, hwl, hcr, hfin⟩ ih
      simp only at ht hst hwl hcr hfin
      (refine go ?_)
      refine K_condP rfl rfl ?_ ?_
      · intro hlt
        have ht2 : t < 2 := by omega
        have hclr := hcr ht2
        (refine K_regionA rfl ?_; refine goR ?_)
        refine J_mid (fun g : HP × HP × List UInt8 × Option Addr × Nat => BAt g.1 (.slice g.2.2.2.1 b.length g.2.2.2.2) g.2.2.1 ∧ g.2.2.1.length = b.length ∧ (∀ F, Ent (g.1 :: g.2.1 :: F) (C :: X :: F)) ∧ (t = 0 → g.2.2.1 = c) ∧ (t = 1 → g.2.2.1 = b))
          (fun g => [(0, .slice a0 b.length c0), (10, ptr b10), (12, ptr bs), (13, .slice (some ⟨bb, oo, none⟩) b.length cA), (15, .int .i64 (t : Int)), (16, .slice g.2.2.2.1 b.length g.2.2.2.2)])
          (fun g => g.1 :: g.2.1 :: pts b10 (cl (blC y) 32) :: (stoL bs bd 1048576 mb s ++ F)) rfl ?_ ?_
        · rintro ⟨W, W', w, wa, wc⟩ ⟨hW, hwl2, hent, hw0, hw1⟩
          simp only at hW hwl2 hent hw0 hw1
          dsimp only
          have hwy : (w.length : Int) = y.size := by rw [hwl2, hsz]
          have hbg := Begin_bl bs bd 1048576 (by omega) mb s y (by rw [hclr.beg]; exact ⟨by simp, by simp⟩) (by omega) (by omega)
          have hcnt := countB_le y
          have hcn := Count_ref y
          have hspn := fun i : Int => Span_ref y i
          unfold blV at hbg hcn hspn
          (refine go ?_)
          refine J_loadArr (U := tab) (l := blC y) 2 rfl rfl rfl rfl rfl rfl ?_
          (first | refine J_callE rfl rfl rfl rfl (hbg) entA ?_ (fun _ _ _ _ _ => trivial) | refine J_call0E rfl rfl rfl (hbg) entA ?_ (fun _ _ _ _ _ => trivial) | (refine go ?_; first | refine J_callE rfl rfl rfl rfl (hbg) entA ?_ (fun _ _ _ _ _ => trivial) | refine J_call0E rfl rfl rfl (hbg) entA ?_ (fun _ _ _ _ _ => trivial)))
          rintro _ _ ⟨e1, s1, rfl, rfl, hR1⟩
          have hg1 := BeginR_grow hR1
          have hg11 := hg1.1
          have hg12 := hg1.2
          obtain ⟨rfl, hH0⟩ := Half.begin (w := w) hclr hr hR1
          (refine go ?_)
          refine K_loop (fun g : Nat × Sto => (g.1 : Int) ≤ countB y ∧ Half y w g.1 g.2 ∧ g.2.A.states.length ≤ s1.A.states.length + g.1 ∧ g.2.A.writes.length ≤ s1.A.writes.length + g.1) (fun g => (countB y).toNat - g.1)
            (fun g => [(0, .slice a0 b.length c0), (10, ptr b10), (12, ptr bs), (13, .slice (some ⟨bb, oo, none⟩) b.length cA), (15, .int .i64 (t : Int)), (16, .slice wa b.length wc), (18, .int .i64 (g.1 : Int))])
            (fun g => W :: W' :: pts b10 (cl (blC y) 32) :: (stoL bs bd 1048576 mb g.2 ++ F)) (0, s1) ⟨hcnt.1, hH0, by simp, by simp⟩ rfl (by repeat (first | exact keep_nil | refine keep_cons rfl ?_)) entA ?_
          have ihO := ih
          clear ih
          rintro ⟨i, u⟩ ⟨hi, hH, hus, huw⟩ ih
          simp only at hi hH hus huw
          dsimp only
          (refine go ?_)
          refine J_loadArr (U := tab) (l := blC y) 2 rfl rfl rfl rfl rfl rfl ?_
          (first | refine J_callE rfl rfl rfl rfl (hcn) entA ?_ (fun _ _ _ _ _ => trivial) | refine J_call0E rfl rfl rfl (hcn) entA ?_ (fun _ _ _ _ _ => trivial) | (refine go ?_; first | refine J_callE rfl rfl rfl rfl (hcn) entA ?_ (fun _ _ _ _ _ => trivial) | refine J_call0E rfl rfl rfl (hcn) entA ?_ (fun _ _ _ _ _ => trivial)))
          rintro _ _ ⟨rfl, rfl⟩
          (refine go ?_)
          refine K_condP rfl rfl ?_ ?_
          · intro hlt2
            have hic : (i : Int) < countB y := hlt2
            obtain ⟨_, hat0, hat1⟩ := span_lt (x := y) (i := (i : Int)) (by omega) hic
            have hrs := hr
            simp only [rightB, decide_eq_true_eq] at hrs
            have hsp : spanB y (i : Int) = some ((i : Int) * y.piece, min y.piece (y.size - (i : Int) * y.piece)) := by unfold spanB; rw [if_neg (by omega)]
            obtain ⟨at_, hat⟩ : ∃ at_ : Nat, (at_ : Int) = (i : Int) * y.piece := ⟨((i : Int) * y.piece).toNat, by omega⟩
            rw [← hat] at hat0 hat1 hsp
            obtain ⟨m, hm⟩ : ∃ m : Nat, (m : Int) = min y.piece (y.size - (at_ : Int)) := ⟨(min y.piece (y.size - (at_ : Int))).toNat, by omega⟩
            rw [← hm] at hsp
            have hspc := hspn (i : Int)
            rw [hsp] at hspc
            have hml : at_ + m ≤ b.length := by omega
            have hpc2 := hW.piece at_ (at_ + m) (by omega) (by rw [hwl2]; exact hml)
            rw [show at_ + m - at_ = m from by omega] at hpc2
            have hplen : ((w.drop at_).take m).length = m := by rw [List.length_take, List.length_drop, hwl2]; omega
            have hpt := Put_bl W bs bd 1048576 mb u y (i : Int) (.slice (sliceAt wa wc at_ 1) m (wc - at_)) ((w.drop at_).take m) hpc2.1 (by omega) (by omega) (by omega) (by omega)
            unfold blV at hpt
            (refine go ?_)
            refine J_loadArr (U := tab) (l := blC y) 2 rfl rfl rfl rfl rfl rfl ?_
            (first | refine J_callE rfl rfl rfl rfl (hspc) entA ?_ (fun _ _ _ _ _ => trivial) | refine J_call0E rfl rfl rfl (hspc) entA ?_ (fun _ _ _ _ _ => trivial) | (refine go ?_; first | refine J_callE rfl rfl rfl rfl (hspc) entA ?_ (fun _ _ _ _ _ => trivial) | refine J_call0E rfl rfl rfl (hspc) entA ?_ (fun _ _ _ _ _ => trivial)))
            rintro _ _ ⟨rfl, rfl⟩
            simp only
            (refine go ?_)
            refine K_drawA (fun w => Sat G w ([pts b10 (cl (blC y) 32)])) (.st 0 (.st 1 (.st 2 (.st 3 (.st 4 (.st 5 (.st 6 (.st 7 (.st 8 (.act 9 .nil)))))))))) rfl (by kernel_rfl) (by kernel_rfl) (by kernel_rfl) (fun w hw => hw.ent entA) ?_
            (refine go ?_)
            have hcap : b.length ≤ wc := by
              obtain ⟨a1, c1, he1, hle1⟩ := hW.2
              simp only [Value.slice.injEq] at he1
              omega
            refine J_loadArrS (U := tab) (l := blC y) 0 rfl rfl rfl rfl rfl rfl ?_
            (refine go ?_)
            refine J_sliceAny (U := tab) (p := (at_ : Int)) (q := (at_ : Int) + (m : Int)) rfl rfl rfl rfl rfl rfl rfl (by omega) (by omega) (.inr (by omega)) ?_
            refine J_slot 138 (.slice (sliceAt wa wc at_ 1) m (wc - at_)) rfl (by rw [show ((at_ : Int) + (m : Int)).toNat = at_ + m from by omega, Int.toNat_natCast, show at_ + m - at_ = m from by omega]; rfl) ?_
            (refine go ?_)
            refine J_callE rfl rfl rfl rfl hpt entA ?_ (fun _ _ _ _ _ => by exact trivial)
            rintro _ _ ⟨e2, u2, rfl, rfl, hR2⟩
            have hg2 := PutS_grow hR2
            have hg21 := hg2.1
            have hg22 := hg2.2
            have hH2 := Half.put hH hr hwy hsp (by rw [Int.toNat_natCast, Int.toNat_natCast]; exact hR2)
            (refine go ?_)
            refine K_ent (H' := W :: W' :: pts b10 (cl (blC y) 32) :: (stoL bs bd 1048576 mb u2 ++ F)) entA ?_
            refine K_again ih (i + 1, u2) rfl ⟨by simp only; omega, hH2, by simp only; omega, by simp only; omega⟩ (by simp only; omega) (by repeat (first | exact keep_nil | refine keep_cons rfl ?_)) entA
          · intro hge2
            refine K_ent (Ent.trans (H2 := W :: W' :: pts b10 (cl (blC y) 32) :: (stoL bs bd 1048576 mb u ++ F)) entA (hent _)) ?_
            have hv2 := hH.full hr hwy (show countB y ≤ (i : Int) from by omega)
            have hin := Install_bl X hK bs bd 1048576 mb u y (by omega) (by omega)
            unfold blV at hin
            (refine go ?_)
            refine J_loadArr (U := tab) (l := blC y) 2 rfl rfl rfl rfl rfl rfl ?_
            (first | refine J_callE rfl rfl rfl rfl (hin) entA ?_ (fun _ _ _ _ _ => trivial) | refine J_call0E rfl rfl rfl (hin) entA ?_ (fun _ _ _ _ _ => trivial) | (refine go ?_; first | refine J_callE rfl rfl rfl rfl (hin) entA ?_ (fun _ _ _ _ _ => trivial) | refine J_call0E rfl rfl rfl (hin) entA ?_ (fun _ _ _ _ _ => trivial)))
            rintro _ _ ⟨e3, u3, rfl, rfl, hR3⟩
            have hg3 := InstallS_grow hR3
            have hg31 := hg3.1
            have hg32 := hg3.2
            clear ih
            have ih := ihO
            rcases (by omega : t = 0 ∨ t = 1) with rfl | rfl
            · obtain ⟨rfl, hC3⟩ := hH.bad hv2 (by rw [hw0 rfl]; exact hwc) hR3
              obtain ⟨hn3, hu3⟩ := hC3.none y
              have hhs := Has_any bs bd 1048576 mb u3.brk u3.A y.d
              rw [show hasF u3.A (fileN kB y.d) = false from hn3] at hhs
              unfold dV at hhs
              have hus3 := Used_bl bs bd 1048576 mb u3 (by rw [hC3.beg]; exact ⟨by simp, by simp⟩)
              rw [hu3] at hus3
              (refine go ?_)
              refine J_loadAgg (U := tab) 5 rfl rfl rfl rfl rfl rfl ?_
              (first | refine J_callE rfl rfl rfl rfl (hhs) entA ?_ (fun _ _ _ _ _ => trivial) | refine J_call0E rfl rfl rfl (hhs) entA ?_ (fun _ _ _ _ _ => trivial) | (refine go ?_; first | refine J_callE rfl rfl rfl rfl (hhs) entA ?_ (fun _ _ _ _ _ => trivial) | refine J_call0E rfl rfl rfl (hhs) entA ?_ (fun _ _ _ _ _ => trivial)))
              rintro _ _ ⟨rfl, rfl⟩
              (refine go ?_)
              (first | refine J_callE rfl rfl rfl rfl (hus3) entA ?_ (fun _ _ _ _ _ => trivial) | refine J_call0E rfl rfl rfl (hus3) entA ?_ (fun _ _ _ _ _ => trivial) | (refine go ?_; first | refine J_callE rfl rfl rfl rfl (hus3) entA ?_ (fun _ _ _ _ _ => trivial) | refine J_call0E rfl rfl rfl (hus3) entA ?_ (fun _ _ _ _ _ => trivial)))
              rintro _ _ ⟨rfl, rfl⟩
              (refine go ?_)
              refine K_ent (H' := C :: X :: pts b10 (cl (blC y) 32) :: (stoL bs bd 1048576 mb u3 ++ F)) entA ?_
              refine K_again ih (1, u3) rfl ⟨by simp only; omega, by simp only; omega, by simp only; omega, fun _ => hC3, fun h => by cases h⟩ (by simp only; omega) (by repeat (first | exact keep_nil | refine keep_cons rfl ?_)) entA
            · obtain ⟨rfl, hh3⟩ := hH.good hv2 (by rw [hw1 rfl]; exact hwh) hR3
              (refine go ?_)
              refine K_ent (H' := C :: X :: pts b10 (cl (blC y) 32) :: (stoL bs bd 1048576 mb u3 ++ F)) entA ?_
              refine K_again ih (2, u3) rfl ⟨by simp only; omega, by simp only; omega, by simp only; omega, fun h => absurd h (by simp), fun _ => hh3⟩ (by simp only; omega) (by repeat (first | exact keep_nil | refine keep_cons rfl ?_)) entA
        · intro tail
          rcases (by omega : t = 0 ∨ t = 1) with rfl | rfl
          · (refine goR ?_)
            refine J_buildArr (U := tab) rfl rfl rfl rfl rfl rfl ?_
            (refine goR ?_)
            refine J_indexAgg (U := tab) rfl rfl rfl rfl rfl rfl rfl rfl (by simp) (by simp) rfl ?_
            (refine goR ?_)
            refine K_to tail (C, X, c, some ⟨bb, oo, none⟩, cA) rfl ⟨hcb2, hcl, fun F => Ent.refl _, fun _ => rfl, fun h => by cases h⟩ (by repeat (first | exact keep_nil | refine keep_cons rfl ?_)) entA
          · (refine goR ?_)
            refine J_buildArr (U := tab) rfl rfl rfl rfl rfl rfl ?_
            (refine goR ?_)
            refine J_indexAgg (U := tab) rfl rfl rfl rfl rfl rfl rfl rfl (by simp) (by simp) rfl ?_
            (refine goR ?_)
            refine K_to tail (X, C, b, a0, c0) rfl ⟨hv, rfl, fun F => Ent.perm (List.Perm.swap ..), fun h => (by cases h), fun _ => rfl⟩ (by repeat (first | exact keep_nil | refine keep_cons rfl ?_)) entA
      · intro hge
        have hte : t = 2 := by omega
        have hhs := Has_any bs bd 1048576 mb s.brk s.A y.d
        rw [show hasF s.A (fileN kB y.d) = true from hfin hte] at hhs
        unfold dV at hhs
        (refine go ?_)
        refine J_loadAgg (U := tab) 2 rfl rfl rfl rfl rfl rfl ?_
        (first | refine J_callE rfl rfl rfl rfl (hhs) entA ?_ (fun _ _ _ _ _ => trivial) | refine J_call0E rfl rfl rfl (hhs) entA ?_ (fun _ _ _ _ _ => trivial) | (refine go ?_; first | refine J_callE rfl rfl rfl rfl (hhs) entA ?_ (fun _ _ _ _ _ => trivial) | refine J_call0E rfl rfl rfl (hhs) entA ?_ (fun _ _ _ _ _ => trivial)))
        rintro _ _ ⟨rfl, rfl⟩
        (refine go ?_)
        refine K_ent (H' := X :: F) entA ?_
        (first | refine K_return hE Tryz.func3 rfl _ rfl ⟨rfl, rfl⟩ entA | refine K_fallEnd hE Tryz.func3 rfl _ rfl ⟨rfl, rfl⟩ entA)
end Go.Proofs.YtpecmnaikjbanaaGreatDoor

/- blobs: the variable that the rows lay: what its cells are. -/
set_option linter.unusedVariables false
set_option linter.unusedSimpArgs false
set_option linter.unnecessarySimpa false
namespace Go.Proofs.YtpecmnaikjbanaaGreatDoor
open Go Go.SL
theorem arr_cells {P : Program} {H : Type} {enc : TypeId × Value → H} {W : World} {base : Nat} {spare : Nat → Bool} {held : Bool} {fuel n : Nat} {t e : TypeId} {k : IntKind} {l : List Value} {x : DataW H × List MemPlace} (ht : P.underlying t = some (.array n e)) (he : P.underlying e = some (.int k)) (hc : P.cellsOf e = 1) (hct : P.cellsOf t = n)
    (h : DataW.trod enc P W base spare held fuel t l = some x) (ns : List Int) (hx : x.1 = .agg (ns.map fun z => .lit (.int k z))) : l = ns.map (Value.int k) := by
  obtain ⟨xs, m, _, hxe, hlen, hxl, hf⟩ := DataW.trod_array ht h
  rw [hct] at hlen
  rw [hxe] at hx
  simp only [DataW.agg.injEq] at hx
  apply List.ext_getElem?
  intro i
  rcases Nat.lt_or_ge i n with hi | hi
  · have h1 := hf i hi
    obtain ⟨y, hy⟩ : ∃ y, xs[i]? = some y := ⟨xs[i]'(by rw [hxl]; exact hi), by simp⟩
    rw [hy, hc, Nat.mul_one] at h1
    obtain ⟨z, r, hz, w⟩ := DataW.trod_int he h1
    have h2 := congrArg (fun l : List Value => l[0]?) r
    have h3 : l[i]? = some (.int k z) := by simpa using h2
    have h4 := congrArg (fun l => l[i]?) hx
    simp only [List.getElem?_map, hy, Option.map_some, hz] at h4
    rw [h3, List.getElem?_map]
    cases hn : ns[i]? with
    | none => rw [hn] at h4; cases h4
    | some z2 =>
      rw [hn] at h4
      simp only [Option.map_some, Option.some.injEq, DataW.lit.injEq, Lit.int.injEq] at h4
      rw [h4.2]
      rfl
  · have hnl : ns.length = n := by have := congrArg List.length hx; simpa [hxl] using this.symm
    rw [List.getElem?_eq_none (by omega), List.getElem?_eq_none (by simp; omega)]
def ksI : List Int := Sha.ks.map fun w => (w.toNat : Int)
theorem wV_ks : wV Sha.ks = ksI.map (Value.int .u32) := by unfold wV ksI; rw [List.map_map]; rfl
theorem ksI_eq : Rows.laid_starling_digest_constants (H := Unit) = .agg (ksI.map fun z => .lit (.int .u32 z)) := by
  unfold Rows.laid_starling_digest_constants ksI Sha.ks
  simp only [List.map_cons, List.map_nil, BitVec.toNat_ofNat]
  rfl
theorem ks_global : Tryz.prog.globalNamed "starling/digest.constants" = some 0 := by kernel_rfl
theorem ks_type : (Tryz.prog.globals[0]?).map (·.type) = some 161 := by kernel_rfl
theorem ks_cells : Tryz.prog.cellsOf 161 = 64 := by kernel_rfl
theorem u32_cells : Tryz.prog.cellsOf 129 = 1 := by kernel_rfl
theorem cells_of_laid {W : World} (h : laidMet Tryz.prog [("starling/digest.constants", Rows.laid_starling_digest_constants)] W) : W.var? Tryz.prog "starling/digest.constants" = some (wV Sha.ks).toArray := by
  obtain ⟨ps, ⟨g, t, cs, fuel, p, q, hg, ht, hvar, hd, _, _⟩, _⟩ := h
  obtain rfl := Option.some.inj (ks_global.symm.trans hg)
  obtain rfl := Option.some.inj (ks_type.symm.trans ht)
  rw [hvar, wV_ks]
  congr 1
  have := arr_cells Tryz.underlying161 Tryz.underlying129 u32_cells ks_cells hd ksI ksI_eq
  rw [← this]
theorem KAt_of_laid {W : World} (h : laidMet Tryz.prog [("starling/digest.constants", Rows.laid_starling_digest_constants)] W) : KAt (old W) := by
  have hv := cells_of_laid h
  refine ⟨some ⟨0, 0, none⟩, 64, rfl, .inr ⟨_, 0, rfl, fun hp ho j c hj => ?_⟩⟩
  rw [Nat.zero_add]
  refine hcell_of_cell ho ?_
  rw [World.var?_cell ks_global hv j]
  simpa using hj
/-- A world in which the variable reads as the rows lay it. -/
noncomputable def laidWorld (os : Os) : World :=
  { World.holding Tryz.prog os ⟨#[], #[], []⟩ with heap := (World.holding Tryz.prog os ⟨#[], #[], []⟩).heap.modify 0 fun
      | .cells _ t frozen => .cells (ksI.map (Value.int .u32)).toArray t frozen
      | o => o }
theorem laidWorld_row (os : Os) (args : Array Value) : ((laidWorld os).forCall (fun _ _ => 0) ⟨#[], args, []⟩).memory.heap[0]? = some (.cells (ksI.map (Value.int .u32)).toArray 161 (0, 0)) := by kernel_rfl
theorem ksI_len : ksI.length = 64 := by unfold ksI; rw [List.length_map]; rfl
set_option maxRecDepth 20000 in
theorem laidWorld_met (os : Os) (args : Array Value) : laidMet Tryz.prog [("starling/digest.constants", Rows.laid_starling_digest_constants)] ((laidWorld os).forCall (fun _ _ => 0) ⟨#[], args, []⟩).memory := by
  have hrow := laidWorld_row os args
  refine ⟨_, ⟨0, 161, (ksI.map (Value.int .u32)).toArray, 8, [], [], ks_global, ks_type, ?_, ?_, rfl, rfl⟩, ?_, ?_⟩
  · unfold World.var?
    rw [ks_global]
    simp only [Option.bind_some, hrow]
  · kernel_rfl
  · rw [List.append_nil, List.append_nil]
    unfold MemPlace.row
    refine List.Pairwise.map (R := fun a b => a ≠ b) _ (fun i j hij e => hij ?_) List.nodup_range
    exact Nat.add_left_cancel (MemPlace.cell.inj e).2
  · intro b off h
    have hb : b = 0 := by
      simp only [List.append_nil, MemPlace.row, List.mem_map] at h
      obtain ⟨i, _, hi⟩ := h
      simp [MemPlace.cell.injEq] at hi
      exact hi.1.symm
    subst hb
    refine ⟨⟨_, _, hrow⟩, fun u v hc => ?_⟩
    simp only [World.cell?, hrow] at hc
    exfalso
    have h2 : ∀ x ∈ ksI.map (Value.int .u32), ∀ u v, x ≠ .iface u v := by
      intro x hx u v
      obtain ⟨z, _, rfl⟩ := List.mem_map.1 hx
      simp
    have h3 : (ksI.map (Value.int .u32))[off]? = some (.iface u v) := by simpa using hc
    exact h2 _ (List.mem_of_getElem? h3) u v rfl
end Go.Proofs.YtpecmnaikjbanaaGreatDoor

/- Engine, part S: rows and arrays of numbers that came in. Nothing here names a program. -/
set_option linter.unusedVariables false
set_option linter.unusedSimpArgs false
namespace Go.SL
open Go Go.RowKit Go.ChangeShapes Go.WideShapes
def iV (l : List Int) : List Value := l.map (Value.int .i64)
theorem iV_get {l : List Int} {i : Nat} {x : Int} (h : l[i]? = some x) : (iV l)[i]? = some (.int .i64 x) := by simp [iV, h]
theorem iV_len (l : List Int) : (iV l).length = l.length := by simp [iV]
theorem ine {l : List Int} {i : Nat} (h : i < l.length) : iV l ≠ [] := fun e => by have := congrArg List.length e; simp [iV] at this; rw [this] at h; simp at h
abbrev i64 (x : Int) : Prop := -9223372036854775808 ≤ x ∧ x ≤ 9223372036854775807
/-- A row of numbers that came in. -/
theorem ints_view {W : World} {a : Addr} {len cap : Nat} {zs : List Int} (hl : len ≤ zs.length) (hcell : ∀ i, i < zs.length → W.cell? (a.add i) = some (.int .i64 (zs.getD i 0))) (hwf : ∀ n ∈ zs, (Lit.int .i64 n).wf = true) :
    ∃ l : List Int, l.length = len ∧ Vw (old W) (.slice (some a) len cap) len (iV l) ∧ ∀ x ∈ l, i64 x := by
  refine ⟨zs.take len, by simp; omega, ⟨some a, cap, rfl, ?_⟩, fun x hx => i64_range (hwf x (List.mem_of_mem_take hx))⟩
  rcases Nat.eq_zero_or_pos len with h0 | h0
  · left; subst h0; simp [iV]
  · right
    obtain ⟨b, o, spot⟩ := a
    have hsp : spot = none := by simpa [Addr.add] using World.cell?_spot (hcell 0 (by omega))
    subst hsp
    refine ⟨b, o, rfl, fun h ho j c hj => ?_⟩
    have hjl : j < len := by
      rcases Nat.lt_or_ge j len with h | h
      · exact h
      · rw [List.getElem?_eq_none (by simp [iV]; omega)] at hj; cases hj
    have h1 := hcell j (by omega)
    rw [Addr.add_eq] at h1
    have h2 := hcell_of_cell ho h1
    rw [h2]
    simp only [iV, List.getElem?_map, List.getElem?_take, hjl, if_true] at hj
    rw [List.getElem?_eq_getElem (by omega)] at hj
    simp only [Option.map_some, Option.some.injEq] at hj
    rw [← hj, List.getD_eq_getElem?_getD, List.getElem?_eq_getElem (by omega)]
    rfl
def aggTy : Option TypeDesc → Bool
  | some (.struct _) => true
  | some (.array _ _) => true
  | _ => false
theorem open_len {H : Type} {enc : TypeId × Value → H} {P : Program} {W : World} {base : Nat} {spare : Nat → Bool} {held : Bool} {fuel : Nat} {t e : TypeId} {a : Option Addr} {len cap : Nat} {d : DataW H} {p : List MemPlace} (ht : P.underlying t = some (.slice e)) (h : DataW.trod enc P W base spare held fuel t [.slice a len cap] = some (d, p)) :
    len = 0 ∨ ∃ el sp, d = .slice el sp ∧ el.length = len := by
  rcases Go.Deep.open_slice ht h with ⟨hcs, _⟩ | ⟨a', len', cap', m, n, D, Pl, hcs, hb, hl, hm, hmm, hx, _⟩
  · simp only [List.cons.injEq, Value.slice.injEq, and_true] at hcs; exact .inl hcs.2.1
  · simp only [List.cons.injEq, Value.slice.injEq, and_true] at hcs
    simp only [Prod.mk.injEq] at hx
    exact .inr ⟨_, _, hx.1, by simp [hcs.2.1]⟩
theorem okWide_agg {P : Program} {w : World} {r : Reach} {base : Nat} {t : TypeId} {v : Value} (ht : aggTy (P.underlying t) = true) (h : Value.okWide P w r base t v) : ∃ cs, v = .agg cs := by
  unfold Value.okWide at h
  unfold aggTy at ht
  split at h
  · obtain ⟨cs, h1, _⟩ := h; exact ⟨cs, h1⟩
  · obtain ⟨cs, h1, _⟩ := h; exact ⟨cs, h1⟩
  · split at ht
    · rename_i h1 h2 _ _ h3; exact absurd h3 (h1 _)
    · rename_i h1 h2 _ _ _ h3; exact absurd h3 (h2 _ _)
    · cases ht
/-- A row of numbers that came in, as a slice. -/
theorem open_intsV {P : Program} {H : Type} {enc : TypeId × Value → H} {W : World} {base : Nat} {spare : Nat → Bool} {held : Bool} {fuel : Nat} {t e : TypeId} {v : Value} {x : DataW H × List MemPlace} (ht : P.underlying t = some (.slice e)) (he : P.underlying e = some (.int .i64)) (hc : P.cellsOf e = 1) (h : DataW.trod enc P W base spare held fuel t [v] = some x) :
    ∃ l : List Int, Vw (old W) v l.length (iV l) ∧ l.length ≤ 9223372036854775807 ∧ ∀ x ∈ l, i64 x := by
  have hmx : maxLen = 9223372036854775807 := by decide
  rcases open_ints ht he hc h with ⟨hcs, _⟩ | ⟨x, l, c, zs, hcs, _, hl, hm, hz, _, hcell, hwz⟩
  · simp only [List.cons.injEq, and_true] at hcs
    subst hcs
    exact ⟨[], ⟨none, 0, rfl, .inl rfl⟩, by simp, by simp⟩
  · simp only [List.cons.injEq, and_true] at hcs
    subst hcs
    obtain ⟨bs, h1, h2, h3⟩ := ints_view (len := l) (cap := c) (by split at hz <;> omega) hcell hwz
    subst h1
    exact ⟨bs, h2, by omega, h3⟩
/-- An array of numbers that came in. -/
theorem open_arrI {P : Program} {H : Type} {enc : TypeId × Value → H} {W : World} {base : Nat} {spare : Nat → Bool} {held : Bool} {fuel n : Nat} {t e : TypeId} {cs : Array Value} {x : DataW H × List MemPlace} (ht : P.underlying t = some (.array n e)) (he : P.underlying e = some (.int .i64)) (hc : P.cellsOf e = 1) (hct : P.cellsOf t = n) (h : DataW.trod enc P W base spare held fuel t (Value.agg cs).cells.toList = some x) :
    ∃ l : List Int, l.length = n ∧ cs = (iV l).toArray ∧ ∀ x ∈ l, i64 x := by
  obtain ⟨xs, m, _, _, hlen, hxl, hf⟩ := DataW.trod_array ht h
  rw [hct] at hlen
  obtain ⟨l, rfl⟩ : ∃ l : List Value, cs = l.toArray := ⟨cs.toList, by simp⟩
  simp only [Value.cells] at hlen hf
  have key : ∀ i, i < n → ∃ z : Int, l[i]? = some (.int .i64 z) ∧ i64 z := fun i hi => by
    have h1 := hf i hi
    obtain ⟨y, hy⟩ : ∃ y, xs[i]? = some y := ⟨xs[i]'(by rw [hxl]; exact hi), by simp⟩
    rw [hy, hc, Nat.mul_one] at h1
    obtain ⟨z, r, _, w⟩ := DataW.trod_int he h1
    refine ⟨z, ?_, i64_range w⟩
    have := congrArg (fun l : List Value => l[0]?) r
    simpa using this
  refine ⟨(List.range n).map fun i => match l[i]? with | Option.some (Value.int _ z) => z | _ => 0, by simp, ?_, ?_⟩
  · congr 1
    apply List.ext_getElem?
    intro i
    rcases Nat.lt_or_ge i n with hi | hi
    · obtain ⟨z, hz, _⟩ := key i hi
      simp [iV, hi, hz]
    · rw [List.getElem?_eq_none (by simpa using hlen ▸ hi), List.getElem?_eq_none (by simp [iV]; exact hi)]
  · intro x hx
    obtain ⟨i, hi, rfl⟩ := List.mem_map.1 hx
    obtain ⟨z, hz, hr⟩ := key i (by simpa using hi)
    rw [hz]; exact hr
end Go.SL

/-
  BlobsSpoilt answers true, whatever it is given; what it is given reads behind the call as it read before. No condition.
-/
namespace Go.Proofs.YtpecmnaikjbanaaGreatDoor.blobsSpoilt
open Go Go.SL
open Go.ChangeShapes Go.WideShapes Go.ChangeAt Go.RowKit
open Go.ChangeMaps (open_string shut_string)
set_option linter.unusedVariables false
set_option linter.unusedSimpArgs false

theorem own : ownKnob Tryz.prog.godebug = none := by kernel_rfl
theorem laidOut : laidOutB Tryz.prog = true := by kernel_rfl

set_option maxRecDepth 100000 in
theorem lifted (os : Os) (started : os.Started) (H : Type) (enc : TypeId × Value → H) :
    ReturnsInHanded {} Tryz.checked os 3 .any (fun w args => (Rows.blobsSpoiltSpec.pre enc Tryz.prog Tryz.f3 Rows.blobsSpoiltRow.domain false w args ∧ laidMet Tryz.prog [("starling/digest.constants", Rows.laid_starling_digest_constants)] w) ∧ sizedMet enc Tryz.prog Tryz.f3 (OpenSpec.ofChange Rows.blobsSpoiltSpec) false w args) (Rows.blobsSpoiltSpec.post enc Tryz.prog Tryz.f3 false true false false) := by
  refine returnsInHanded_of_change_and (C := Tryz.checked) (X := fun w _ => laidMet Tryz.prog [("starling/digest.constants", Rows.laid_starling_digest_constants)] w) (fun _ _ _ hh h => h.of_heap hh) own started (by kernel_rfl) Tryz.func3
    (ChangeSpec.witness_at (enc := enc) (C := Tryz.checked) (os := os) (X := fun w _ => laidMet Tryz.prog [("starling/digest.constants", Rows.laid_starling_digest_constants)] w) false (laidWorld os) #[.slice none 0 0, .int .i64 0, .agg #[.int .i64 0, .int .i64 0]] 8 rfl (by kernel_rfl) (by kernel_rfl) (by kernel_rfl) (by kernel_rfl) (by kernel_rfl) (laidWorld_met os #[.slice none 0 0, .int .i64 0, .agg #[.int .i64 0, .int .i64 0]])) ?_
  intro W base args ds gs before hval0 hW hcnd _ hL _
  have hval : ∀ (j : Nat) t v, Tryz.f3.params[j]? = some t → args[j]? = some v → Value.okWide Tryz.prog W .any base t v := hval0
  have hW' := hW
  obtain ⟨p, q, hA0, hV, rfl, hfz, hnd⟩ := hW
  have hA : DataW.TrodAll enc Tryz.prog W 0 (fun _ => true) true Tryz.f3.params.toList args.toList ds p := hA0
  rw [Tryz.params3] at hA hval
  obtain ⟨v0, vs0, d0, ds0, p0, q0, hargs, rfl, rfl, h0, r0⟩ := trodAll_cons hA
  obtain ⟨v1, vs1, d1, ds1, p1, q1, rfl, rfl, rfl, h1, r1⟩ := trodAll_cons r0
  obtain ⟨v2, vs2, d2, ds2, p2, q2, rfl, rfl, rfl, h2, r2⟩ := trodAll_cons r1
  obtain ⟨rfl, rfl, rfl⟩ := trodAll_nil r2
  obtain rfl : args = #[v0, v1, v2] := by cases args; simp_all
  obtain ⟨rfl, rfl⟩ := trodVars_none hV
  obtain ⟨a0, len0, cap0, rfl⟩ := okWide_slice Tryz.underlying22 (hval 0 22 v0 rfl rfl)
  have k0 := h0
  have lt0 : ∀ x ∈ p0, x.block < W.heap.size := by obtain ⟨m, hm⟩ := k0; exact DataW.trod_lt m _ _ _ hm
  obtain ⟨bs0, hbl0, hbs0, hv0⟩ : ∃ bs : List UInt8, bs.length = len0 ∧ len0 ≤ 9223372036854775807 ∧ Vw (old W) (.slice a0 len0 cap0) len0 (bV bs) ∧ len0 ≤ cap0 := by
    obtain ⟨fuel, hf⟩ := h0
    rcases open_ints Tryz.underlying22 Tryz.underlying5 (by kernel_rfl) hf with ⟨hcs, _⟩ | ⟨x, l, c, zs, hcs, _, hl, hm, hz, _, hcell, hwz⟩
    · simp [Value.cells] at hcs
      obtain ⟨rfl, rfl, rfl⟩ := hcs
      exact ⟨[], rfl, by omega, nil_view W, Nat.le_refl _⟩
    · simp [Value.cells] at hcs
      obtain ⟨rfl, rfl, rfl⟩ := hcs
      obtain ⟨bs, h1, h2⟩ := bytes_view (len := len0) (cap := cap0) (by simp at hz; omega) hcell hwz
      exact ⟨bs, h1, by have : maxLen = 9223372036854775807 := by decide
                        omega, h2, hl⟩
  subst hbl0
  obtain ⟨a1, rfl, rfl, rfl, w1⟩ := open_int Tryz.underlying3 (hval 1 3 v1 rfl rfl) h1
  obtain ⟨cs2, rfl⟩ := SL.okWide_agg (P := Tryz.prog) (t := 23) (by rw [Tryz.underlying23]; rfl) (hval 2 23 v2 rfl rfl)
  have k2 := h2
  have lt2 : ∀ x ∈ p2, x.block < W.heap.size := by obtain ⟨m, hm⟩ := k2; exact DataW.trod_lt m _ _ _ hm
  obtain ⟨x2, y2, rfl, wx2, wy2⟩ : ∃ x y : Int, cs2 = #[.int .i64 x, .int .i64 y] ∧ SL.i64 x ∧ SL.i64 y := by
    obtain ⟨fuel, hf⟩ := h2
    obtain ⟨l, h1, h2, h3⟩ := open_arrI Tryz.underlying23 Tryz.underlying3 (by kernel_rfl) (by kernel_rfl) hf
    match l, h1 with
    | [x, y], _ => exact ⟨x, y, h2, h3 _ (by simp), h3 _ (by simp)⟩
  clear hA0 hval0
  refine (row_walk (Spoilt_any (old W) (KAt_of_laid hL) _ bs0 ⟨hv0.1, _, _, rfl, hv0.2⟩ hbs0 a1 x2 y2 wx2 wy2)).mono fun e W' ⟨he, bel⟩ => ?_
  subst he
  exact ⟨_, rfl, _, _, _, [], _, [], hW', trodAll_mk1 (shut_bool Tryz.underlying4 _), (trodAll_cons_mk (Below.trod laidOut (by kernel_rfl) (of_decide_eq_true (by kernel_rfl)) k0 bel lt0) (trodAll_cons_mk (shut_int Tryz.underlying3 w1) (trodAll_cons_mk (Below.trod laidOut (by kernel_rfl) (of_decide_eq_true (by kernel_rfl)) k2 bel lt2) trodAll_mk0))), rfl, bel.frame _, fun h => by cases h⟩

theorem proved : Rows.BlobsSpoiltSaid :=
  OpenClaim.holds_of_wide 3 Tryz.f3 rfl rfl rfl rfl rfl rfl rfl ⟨rfl, rfl, rfl, rfl, rfl⟩ rfl rfl rfl rfl rfl (by kernel_rfl) Tryz.func3 (by kernel_rfl)
    (of_decide_eq_true (by kernel_rfl)) (by unfold Func.isWrapper; first | (rw [if_pos (by decide +kernel)]; kernel_rfl) | (rw [if_neg (by decide +kernel)]; exact ⟨rfl, rfl⟩))
    (fun os started H enc _ => lifted os started H enc)
#print axioms proved
end Go.Proofs.YtpecmnaikjbanaaGreatDoor.blobsSpoilt

