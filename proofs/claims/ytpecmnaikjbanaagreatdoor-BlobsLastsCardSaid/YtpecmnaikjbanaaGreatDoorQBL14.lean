/- Texts of one claim, joined: Vu0, Vu, Vw, Ud0, EngV, EngCmp, Bt0, Bt, Bv, Vv, Bz0. -/
import Derived.Test.YtpecmnaikjbanaaGreatDoorQBL4
import Derived.Test.YtpecmnaikjbanaaGreatDoorQBL5
import Derived.Test.YtpecmnaikjbanaaGreatDoorQBL6
import Derived.Test.YtpecmnaikjbanaaGreatDoorQBL7
import Derived.Test.YtpecmnaikjbanaaGreatDoorQBL9
import Derived.Test.YtpecmnaikjbanaaGreatDoorQBL10
import Derived.Test.YtpecmnaikjbanaaGreatDoorQBL12
import Derived.Test.YtpecmnaikjbanaaGreatDoorQBL13
import Derived.Shelf.SlSortCmp.NoneTotal
import Derived.Lib.Bytealg
import Derived.Sort.Statements
import Derived.Shelf.SlLaysF0
import Derived.Test.YtpecmnaikjbanaaGreatDoorChecked
import Derived.Test.YtpecmnaikjbanaaGreatDoorRows
import Derived.OpenShut
import Derived.ChangeArms
import Derived.ProofKit
import Derived.Handed
import Derived.JoinedOf
import Derived.RowKit
/- blobs, plain: rounds of the law Lasts. -/
set_option linter.unusedVariables false
set_option linter.unusedSimpArgs false
namespace Go.Proofs.YtpecmnaikjbanaaGreatDoor
open Go Go.SL
theorem LS.congr {s : Sto} {th mb th' mb' : Dg → Prop} (h : LS s th mb) (h1 : ∀ d, th' d ↔ th d) (h2 : ∀ d, mb' d ↔ mb d) : LS s th' mb' :=
 ⟨h.1.weak (fun d hd => (h1 d).1 hd) (fun d hd => hd.imp (h1 d).2 (h2 d).2), h.2⟩
theorem chgS_beg {ss : List Stp} {s t : Sto} {e : Nat} (h : chgS ss s e t) : t.beg = s.beg := by obtain ⟨B, _, rfl⟩ := h; rfl
def BgN (n : Nat) (l : List (Dg × Bl)) : Prop := (∀ x ∈ l, 0 ≤ x.2.size ∧ x.2.size ≤ 1048576) ∧ l.length ≤ n
theorem BgN.same {n : Nat} {l m : List (Dg × Bl)} (h : BgN n l) (e : m = l) : BgN (n + 1) m := by subst e; exact ⟨h.1, by have := h.2; omega⟩
theorem BgN.del {n : Nat} {l : List (Dg × Bl)} (h : BgN n l) (d : Dg) : BgN (n + 1) (delB l d) :=
 ⟨fun x hx => h.1 x (delB_mem hx), by have := h.2; have := List.length_filter_le (fun x : Dg × Bl => !decide (x.1 = d)) l; unfold delB; omega⟩
theorem BgN.add {n : Nat} {l : List (Dg × Bl)} (h : BgN n l) (x : Bl) (hr : rightB x = true) : BgN (n + 1) (l ++ [(x.d, x)]) := by
 simp only [rightB, decide_eq_true_eq] at hr
 refine ⟨fun y hy => ?_, by have := h.2; simp; omega⟩
 rcases List.mem_append.1 hy with hy | hy
 ·exact h.1 y hy
 ·rw [List.mem_singleton.1 hy]; exact ⟨by simp only; omega, by simp only; omega⟩
theorem BgN.begin {q : Int} {n : Nat} {x : Bl} {s t : Sto} {e : Nat} (h : BgN n s.beg) (hR : BeginR q x s e t) : BgN (n + 1) t.beg := by
 unfold BeginR at hR
 split at hR
 ·rw [hR.2]; exact h.same rfl
 split at hR
 ·rw [hR.2]; exact h.same rfl
 rename_i hr
 have hr' : rightB x = true := by simpa using hr
 split at hR
 ·rw [hR.2]; exact h.same rfl
 split at hR
 ·rw [hR.2]; exact h.same rfl
 split at hR
 ·rw [hR.2]; exact h.add x hr'
 ·obtain ⟨e1, s1, hc, hd⟩ := hR
  have hb := chgS_beg hc
  rcases hd with ⟨_, _, rfl⟩ | ⟨_, _, rfl⟩
  ·exact h.same hb
  ·show BgN (n + 1) (s1.beg ++ [(x.d, x)])
   rw [hb]; exact h.add x hr'
theorem BgN.put {n : Nat} {x : Bl} {i : Int} {b : List UInt8} {s t : Sto} {e : Nat} (h : BgN n s.beg) (hR : PutS x i b s e t) : BgN (n + 1) t.beg := by
 unfold PutS at hR
 split at hR
 ·rw [hR.2]; exact h.same rfl
 split at hR
 ·rw [hR.2]; exact h.same rfl
 split at hR
 ·rw [hR.2]; exact h.same rfl
 ·exact h.same (chgS_beg hR)
theorem BgN.sync {n : Nat} {x : Bl} {s t : Sto} {e : Nat} (h : BgN n s.beg) (hR : SyncS x s e t) : BgN (n + 1) t.beg := by
 unfold SyncS at hR
 split at hR
 ·rw [hR.2]; exact h.same rfl
 ·exact h.same (chgS_beg hR)
theorem BgN.abort {n : Nat} {x : Bl} {s t : Sto} {e : Nat} (h : BgN n s.beg) (hR : AbortS x s e t) : BgN (n + 1) t.beg := by
 unfold AbortS at hR
 split at hR
 ·rw [hR.2]; exact h.same rfl
 ·obtain ⟨s1, hc, rfl⟩ := hR
  have hb := chgS_beg hc
  split
  ·exact h.same hb
  ·show BgN (n + 1) (delB s1.beg x.d)
   rw [hb]; exact h.del _
theorem BgN.install {n : Nat} {x : Bl} {s t : Sto} {e : Nat} (h : BgN n s.beg) (hR : InstallS x s e t) : BgN (n + 1) t.beg := by
 unfold InstallS at hR
 split at hR
 ·rw [hR.2]; exact h.same rfl
 split at hR
 ·obtain ⟨e1, h1, _⟩ := hR
  exact h.abort h1
 ·obtain ⟨s1, hc, rfl⟩ := hR
  have hb := chgS_beg hc
  split
  ·exact h.same hb
  ·show BgN (n + 1) (delB s1.beg x.d)
   rw [hb]; exact h.del _
theorem BgN.commit {n : Nat} {l : List Bl} {s t : Sto} {e : Nat} (h : BgN n s.beg) (hR : CommitS l s e t) : BgN (n + 1) t.beg := by
 unfold CommitS at hR
 split at hR
 ·rw [hR.2]; exact h.same rfl
 split at hR
 ·rw [hR.2]; exact h.same rfl
 split at hR
 ·rw [hR.2]; exact h.same rfl
 split at hR
 ·rw [hR.2]; exact h.same rfl
 ·exact h.same (chgS_beg hR)
theorem BgN.drop {n : Nat} {d : Dg} {s t : Sto} {e : Nat} (h : BgN n s.beg) (hR : DropS d s e t) : BgN (n + 1) t.beg := by
 unfold DropS at hR
 split at hR
 ·rw [hR.2]; exact h.same rfl
 split at hR
 ·rw [hR.2]; exact h.same rfl
 ·exact h.same (chgS_beg hR)
theorem SyncS_grow {x : Bl} {s t : Sto} {e : Nat} (h : SyncS x s e t) : SGrow 1 s t := by
 unfold SyncS at h
 split at h
 ·exact h.2 ▸ SGrow.refl _ _
 ·exact grow_chgS (fun sp hsp A e B hh => by
   simp only [List.mem_cons, List.not_mem_nil, or_false] at hsp
   subst hsp
   exact grow_stSync hh) h
structure RL (n : Nat) (s : Sto) (th mb : Dg → Prop) : Prop where
 ls : LS s th mb
 bg : BgN n s.beg
 sts : s.A.states.length ≤ 700 + 100 * n
 wrs : s.A.writes.length ≤ 100 * n
theorem RL.mono {n : Nat} {s : Sto} {th mb : Dg → Prop} (h : RL n s th mb) : RL (n + 1) s th mb := ⟨h.ls, h.bg.same rfl, by have := h.sts; omega, by have := h.wrs; omega⟩
theorem RL.congr {n : Nat} {s : Sto} {th mb th' mb' : Dg → Prop} (h : RL n s th mb) (h1 : ∀ d, th' d ↔ th d) (h2 : ∀ d, mb' d ↔ mb d) : RL n s th' mb' := ⟨h.ls.congr h1 h2, h.bg, h.sts, h.wrs⟩
theorem RL.grown {n m : Nat} {s t : Sto} {th mb th' mb' : Dg → Prop} (h : RL n s th mb) (hm : m ≤ 100) (hl : LS t th' mb') (hb : BgN (n + 1) t.beg) (hg : SGrow m s t) : RL (n + 1) t th' mb' :=
 ⟨hl, hb, by have := h.sts; have := hg.1; omega, by have := h.wrs; have := hg.2; omega⟩
def BlobR (q : Int) (st : ST8) (s t : Sto) : Prop := t = s ∨ ∃ e, BeginR q st.x s e t ∨ PutS st.x st.i st.b s e t ∨ SyncS st.x s e t ∨ InstallS st.x s e t ∨ AbortS st.x s e t
theorem RL.blob {q : Int} {n : Nat} {st : ST8} {s t : Sto} {th mb : Dg → Prop} (h : RL n s th mb) (hR : BlobR q st s t) : RL (n + 1) t th mb := by
 rcases hR with rfl | ⟨e, hR | hR | hR | hR | hR⟩
 ·exact h.mono
 ·exact h.grown (by omega) (h.ls.begin hR) (h.bg.begin hR) (BeginR_grow hR)
 ·exact h.grown (by omega) (h.ls.put hR) (h.bg.put hR) (PutS_grow hR)
 ·exact h.grown (by omega) (h.ls.sync hR) (h.bg.sync hR) (SyncS_grow hR)
 ·exact h.grown (by omega) (h.ls.install hR) (h.bg.install hR) (InstallS_grow hR)
 ·exact h.grown (by omega) (h.ls.abort hR) (h.bg.abort hR) (AbortS_grow hR)
theorem commit_img {l : List Bl} {s t : Sto} (hR : CommitS l s 0 t) : imageB l = 0 := by
 unfold CommitS at hR
 split at hR
 ·cases hR.1
 split at hR
 ·exact hR.1.symm
 ·rename_i h; omega
theorem RL.commit {n : Nat} {l : List Bl} {s t : Sto} {e : Nat} {th mb : Dg → Prop} (h : RL n s th mb) (hR : CommitS l s e t) :
  (e = 0 → RL (n + 1) t (fun d => th d ∨ d = nmB l) mb) ∧ (e ≠ 0 → RL (n + 1) t th (fun d => mb d ∨ d = nmB l)) := by
 have hb := h.bg.commit hR
 have hg := CommitS_grow hR
 obtain ⟨h1, h2⟩ := h.ls.commit hR
 refine ⟨fun h0 => ?_, fun h0 => h.grown (by omega) (h2 h0 _ (fun hi => by unfold nmB; rw [if_pos hi])) hb hg⟩
 subst h0
 have hi := commit_img hR
 refine h.grown (by omega) ?_ hb hg
 unfold nmB
 rw [if_pos hi]
 exact h1 rfl
theorem RL.drop {n : Nat} {d : Dg} {s t : Sto} {e : Nat} {th mb : Dg → Prop} (h : RL n s th mb) (hR : DropS d s e t) :
  (e = 0 → RL (n + 1) t (fun x => th x ∧ x ≠ d) mb) ∧ (e ≠ 0 → RL (n + 1) t (fun x => th x ∧ x ≠ d) (fun x => mb x ∨ x = d)) := by
 have hb := h.bg.drop hR
 have hg := DropS_grow hR
 obtain ⟨h1, h2⟩ := h.ls.drop hR
 exact ⟨fun h0 => h.grown (by omega) (h1 h0) hb hg, fun h0 => h.grown (by omega) (h2 h0) hb hg⟩
theorem RL.plan {n : Nat} {s : Sto} {th mb : Dg → Prop} (h : RL n s th mb) (p : List UInt8) : RL (n + 1) ⟨{ s.A with plan := p }, s.beg, s.brk⟩ th mb := by
 have e : Eqv s.A { s.A with plan := p } := ⟨rfl, rfl, rfl, rfl, rfl⟩
 exact ⟨⟨h.ls.1.eqv e, fun hb => (h.ls.2 hb).eqv e⟩, h.bg.same rfl, by have := h.sts; show s.A.states.length ≤ _; omega, by have := h.wrs; show s.A.writes.length ≤ _; omega⟩
theorem RL.crash {n : Nat} {s : Sto} {th mb : Dg → Prop} (h : RL n s th mb) (last : Int) (stay : List UInt8) (torn cut : Int) (hd : DOk (s.A.crash last stay torn cut)) {e : Nat} {B : Ab} (hO : OpenS (s.A.crash last stay torn cut) e B) : e = 0 ∧ RL (n + 1) ⟨B, [], false⟩ th mb := by
 obtain ⟨g1, -⟩ := h.ls.1.crash last stay torn cut
 have hw : (s.A.crash last stay torn cut).writes = [] := rfl
 have hn := hd.smallN _ (List.mem_cons_self ..)
 obtain ⟨rfl, k1, k2, -, -, -, -, -, k8, -, k10⟩ := g1.open rfl rfl rfl (hd.nodup _ (List.mem_cons_self ..)) hO
 refine ⟨rfl, ⟨k1, fun _ => k2⟩, ⟨fun x hx => (by cases hx), Nat.zero_le _⟩, by show B.states.length ≤ _; omega, by show B.writes.length ≤ _; rw [k8, hw]; simp⟩
/-! ## maps that say of names that they are there -/
def thE (es : List (Dg × Value)) (d : Dg) : Prop := alook es d = some (.bool true)
def TB (es : List (Dg × Value)) : Prop := ∀ d, alook es d = none ∨ thE es d
theorem TB.nil : TB [] := fun d => .inl rfl
theorem thE_nil (d : Dg) : ¬ thE [] d := fun h => by cases h
theorem thE_aset (es : List (Dg × Value)) (k d : Dg) : thE (aset es k (.bool true)) d ↔ thE es d ∨ d = k := by
 unfold thE
 rw [alook_aset]
 by_cases h : d = k
 ·simp [h]
 ·simp [h]
theorem TB.aset {es : List (Dg × Value)} (h : TB es) (k : Dg) : TB (SL.aset es k (.bool true)) := fun d => by
 rw [alook_aset]
 by_cases hd : d = k
 ·right; rw [thE_aset]; exact .inr hd
 ·rw [if_neg hd]
  rcases h d with h1 | h1
  ·exact .inl h1
  ·right; rw [thE_aset]; exact .inl h1
theorem alook_adel (es : List (Dg × Value)) (k d : Dg) : alook (adel es k) d = if d = k then none else alook es d := by
 unfold alook adel
 induction es with
 | nil => simp
 | cons x es ih =>
  rw [List.filter_cons]
  by_cases hx : x.1 = k
  ·simp only [hx, decide_true, Bool.not_true, Bool.false_eq_true, if_false]
   rw [ih]
   by_cases hd : d = k
   ·simp [hd]
   ·have : ¬ x.1 = d := fun e => hd (e.symm.trans hx)
    rw [if_neg hd, if_neg hd, List.find?_cons]
    simp [this]
  ·simp only [hx, decide_false, Bool.not_false, if_true]
   rw [List.find?_cons, List.find?_cons]
   by_cases hd : x.1 = d
   ·have : ¬ d = k := fun e => hx (hd.trans e)
    simp [hd, this]
   ·simp only [hd, decide_false]
    exact ih
theorem thE_adel (es : List (Dg × Value)) (k d : Dg) : thE (adel es k) d ↔ thE es d ∧ d ≠ k := by
 unfold thE
 rw [alook_adel]
 by_cases h : d = k
 ·simp [h]
 ·simp [h]
theorem TB.adel {es : List (Dg × Value)} (h : TB es) (k : Dg) : TB (SL.adel es k) := fun d => by
 rw [alook_adel]
 by_cases hd : d = k
 ·left; rw [if_pos hd]
 ·rw [if_neg hd]
  rcases h d with h1 | h1
  ·exact .inl h1
  ·right; rw [thE_adel]; exact ⟨h1, hd⟩
theorem RL.images {n : Nat} {s : Sto} {th mb : Dg → Prop} (h : RL n s th mb) : (∀ d ∈ imagesF s.A, th d ∨ mb d) ∧ ∀ d, th d → d ∈ imagesF s.A :=
 ⟨fun d hd => h.ls.1.im _ h.ls.1.lg.mem d ((mem_imagesA s.A d).1 hd), fun d hd => (mem_imagesA s.A d).2 (h.ls.1.ths d hd _ h.ls.1.lg.mem)⟩
theorem readS_on {A : Ab} (ho : A.off = false) {d : Dg} {f : Nat} (hf : A.look (fBd d) = some f) : readS A d 0 ((A.now f).length : Int) = (A.now f, 0) := by
 unfold readS hasF
 rw [show A.look (fileN kB d) = some f from hf]
 simp only [Option.isSome_some, if_true]
 unfold Ab.read
 rw [if_neg (by rw [ho]; simp), show A.look (fileN kB d) = some f from hf]
 simp only
 rw [if_neg (by omega)]
 simp
end Go.Proofs.YtpecmnaikjbanaaGreatDoor
/- blobs: the law Lasts: what it calls. -/
namespace Go.Proofs.YtpecmnaikjbanaaGreatDoor
open Go Go.SL
attribute [local irreducible] J K Ctr Ends pts slc mapR mapI sbRow stock arrS loopP CtrY Sha.chunks Sha.chunk Sha.rounds Sha.sched sumL taggedL GI leafL diskA
theorem dgE8 {l : List Dg} {i : Nat} {d : Dg} (hx : l[i]? = some d) : ∀ (q : Nat) (v : Value), (dC d)[q]? = some v → (l.flatMap dC)[i * 32 + q]? = some v := fun q v hq => by
 rw [chunk_get dC_len hx q (by rcases Nat.lt_or_ge q 32 with h | h; exact h; rw [List.getElem?_eq_none (by rw [dC_len]; exact h)] at hq; cases hq)]
 exact hq
set_option maxRecDepth 20000 in
set_option maxHeartbeats 1000000 in
theorem between_any (Z : HP) (v : Value) (l : List Dg) (hv : Vw Z v l.length (l.flatMap dC)) (hl : l.length ≤ 1000000) (m1 m2 : Nat) (e1 e2 : List (Dg × Value)) (hT : TB e1) (h1 : ∀ d ∈ l, thE e1 d ∨ thE e2 d) (h2 : ∀ d, thE e1 d → d ∈ l) :
  Ctr Tryz.prog 39 [v, .map (some m1), .map (some m2)] [Z, mapR dV m1 e1, mapR dV m2 e2] (fun r H => r = .bool true ∧ H = [Z, mapR dV m1 e1, mapR dV m2 e2]) := by
 obtain ⟨a, c, rfl⟩ := hv.shape
 refine Ctr.enter Tryz.func39 (by kernel_rfl) rfl Tryz.ntmps39 rfl rfl ?_
 intro G F R hE
 refine go ?_
 refine J_makeMap rfl (fun _ _ _ => trivial) ?_
 intro mk
 refine J_ent (Ent.fold (B := [_]) (A := mapR dV mk []) (fun h hs => ⟨h, sub.refl h, mapR_new dV mk h (Sep_one hs)⟩)) ?_
 refine go ?_
 refine K_loop (fun y : Nat × List (Dg × Value) => y.1 ≤ l.length ∧ KM y.2 (l.take y.1)) (fun y => l.length - y.1)
  (fun y => [(0, .slice a l.length c), (1, .map (some m1)), (2, .map (some m2)), (7, .map (some mk)), (8, .int .i64 (y.1 : Int))])
  (fun y => Z :: mapR dV mk y.2 :: mapR dV m1 e1 :: mapR dV m2 e2 :: F) (0, []) ⟨Nat.zero_le _, KM.nil⟩ rfl (by repeat (first | exact keep_nil | refine keep_cons rfl ?_)) entA ?_
 rintro ⟨i, es⟩ ⟨hi, hkm⟩ ih
 simp only at hi hkm
 dsimp only
 refine go ?_
 refine K_condP rfl rfl ?_ ?_
 ·intro hlt
  have hi' : i < l.length := by omega
  obtain ⟨d, hx⟩ : ∃ x, l[i]? = some x := ⟨l[i], by simp⟩
  have hkm2 := hkm.add d
  rw [show l.take i ++ [d] = l.take (i + 1) from by rw [List.take_add_one, hx]; rfl] at hkm2
  have hdE := dgE8 hx
  obtain ⟨b, o, cap', hsl⟩ := hv.some (by rw [← List.length_pos_iff, chunk_len dC_len]; omega)
  simp only [Value.slice.injEq] at hsl
  obtain ⟨rfl, _, rfl⟩ := hsl
  refine go ?_
  refine J_at (U := tab) i 32 rfl rfl rfl rfl rfl rfl rfl rfl hi' ?_
  refine J_loadElem (U := tab) (es := dC d) 0 (i * 32) rfl rfl rfl hv rfl hdE rfl rfl rfl ?_
  refine J_mapUpdate (U := tab) (es := es) (key := d) (v := .bool true) 1 kDg (fun _ _ => trivial) rfl rfl rfl rfl rfl rfl rfl rfl ?_
  refine go ?_
  refine J_at (U := tab) i 32 rfl rfl rfl rfl rfl rfl rfl rfl hi' ?_
  refine J_loadElem (U := tab) (es := dC d) 0 (i * 32) rfl rfl rfl hv rfl hdE rfl rfl rfl ?_
  refine J_lookup (U := tab) (es := e1) (key := d) 2 rfl kDg rfl rfl rfl rfl rfl rfl rfl rfl ?_
  rcases hT d with h3 | h3
  ·have h4 : alook e2 d = some (.bool true) := by
    rcases h1 d (List.mem_of_getElem? hx) with h | h
    ·unfold thE at h; rw [h3] at h; cases h
    ·exact h
   rw [h3]
   refine go ?_
   refine J_at (U := tab) i 32 rfl rfl rfl rfl rfl rfl rfl rfl hi' ?_
   refine go ?_
   first | refine J_loadElem (U := tab) (es := dC d) 0 (i * 32) rfl rfl rfl hv rfl hdE rfl rfl rfl ?_ | (refine J_isLoad ?_; refine J_loadElem (U := tab) (es := dC d) 0 (i * 32) rfl rfl rfl hv rfl hdE rfl rfl rfl ?_)
   refine go ?_
   refine J_lookup (U := tab) (es := e2) (key := d) 3 rfl kDg rfl rfl rfl rfl rfl rfl rfl rfl ?_
   rw [h4]
   refine go ?_
   refine K_again ih (i + 1, aset es d (.bool true)) rfl ⟨by simp only; omega, hkm2⟩ (by simp only; omega) (by repeat (first | exact keep_nil | refine keep_cons rfl ?_)) entA
  ·unfold thE at h3
   rw [h3]
   refine go ?_
   refine K_again ih (i + 1, aset es d (.bool true)) rfl ⟨by simp only; omega, hkm2⟩ (by simp only; omega) (by repeat (first | exact keep_nil | refine keep_cons rfl ?_)) entA
 ·intro hge
  have hie : i = l.length := by omega
  rw [hie, List.take_length] at hkm
  clear ih
  refine K_sat fun ⟨w, hw⟩ => ?_
  have hnd : (e1.map (·.1)).Nodup := by
   obtain ⟨h1, hA⟩ := getA_ex hw (i := 2) rfl
   exact mapR_nodup hA
  clear hw w
  refine go ?_
  refine J_range (kv := dV) (es := e1) (U := tab) 2 rfl rfl rfl rfl rfl (fun _ => rfl) (fun _ _ _ => trivial) ?_
  intro it
  refine go ?_
  refine K_loop (fun s : List Dg => s.Nodup ∧ ∀ x ∈ s, x ∈ e1.map (·.1)) (fun s => e1.length - s.length) (fun s => [(7, .map (some mk)), (39, .pointer (some ⟨it, 0, none⟩))])
   (fun s => mapI dV m1 it e1 s :: Z :: mapR dV mk es :: mapR dV m2 e2 :: F) [] ⟨List.nodup_nil, by simp⟩ rfl (by repeat (first | exact keep_nil | refine keep_cons rfl ?_)) entA ?_
  rintro dn ⟨hdn, hsub⟩ ih
  refine go ?_
  refine J_next (kv := dV) (es := e1) 0 rfl kDg.inj rfl rfl (fun _ => rfl) (fun _ _ => trivial) (fun _ _ _ => trivial) ?_ ?_
  ·intro hall
   refine go ?_
   refine K_ent (Ent.head (B := [mapR dV m1 e1]) (fun h hs => by obtain ⟨h', s, hm⟩ := mapI_mapR h hs; exact ⟨h', s, Sep_one' hm⟩)) ?_
   (first | refine K_return hE Tryz.func39 rfl _ rfl ⟨rfl, rfl⟩ entA | refine K_fallEnd hE Tryz.func39 rfl _ rfl ⟨rfl, rfl⟩ entA)
  ·intro key v hmem hnot
   have hk : key ∈ e1.map (·.1) := List.mem_map.2 ⟨_, hmem, rfl⟩
   have hth : thE e1 key := by
    rcases hT key with h | h
    ·exact absurd hk (alook_none.1 h)
    ·exact h
   have hin := h2 key hth
   have hgot : alook es key = some (.bool true) := by rw [hkm key, if_pos hin]
   have hlt : dn.length < e1.length := by
    have h1 : (key :: dn).length ≤ (e1.map (·.1)).length := (List.nodup_cons.2 ⟨hnot, hdn⟩).length_le_of_subset (fun x hx => by rcases List.mem_cons.1 hx with rfl | h; exact hk; exact hsub x h)
    simp only [List.length_cons, List.length_map] at h1
    omega
   refine go ?_
   refine J_entry (kv := dV) (es := e1) 0 rfl kDg.inj rfl rfl hmem ?_
   unfold dV
   refine go ?_
   refine J_alloc (U := tab) rfl rfl rfl (fun _ _ _ => trivial) ?_
   intro b9
   refine go ?_
   refine J_loadArr (U := tab) (l := dC key) 0 rfl rfl rfl rfl rfl rfl ?_
   refine J_lookup (U := tab) (kv := dV) (es := es) (key := key) 3 rfl kDg rfl rfl rfl rfl rfl rfl rfl rfl ?_
   rw [hgot]
   refine go ?_
   refine K_again ih (key :: dn) rfl (⟨List.nodup_cons.2 ⟨hnot, hdn⟩, fun x hx => by rcases List.mem_cons.1 hx with rfl | h; exact hk; exact hsub x h⟩) (by show _ - (key :: dn).length < _; simp only [List.length_cons]; omega) (by repeat (first | exact keep_nil | refine keep_cons rfl ?_)) entA
def st8V (s : ST8) : Value := .agg (st8C s).toArray
set_option maxRecDepth 20000 in
set_option maxHeartbeats 1000000 in
theorem blob_any (X : HP) (hK : KAt X) (bs bd : Nat) (q : Int) (hq : 0 ≤ q ∧ q ≤ 1073741824) (mb : Nat) (s : Sto) (st : ST8) (hso : ST8ok X st) (hbl : st.b.length ≤ 1000000000) (hbo : BegOk s.beg) (hst : s.A.states.length ≤ 800000000) (hwl : s.A.writes.length ≤ 800000000) :
  Ctr Tryz.prog 35 [ptr bs, st8V st] (stoL bs bd q mb s ++ [X]) (fun r H => ∃ t, r = .tuple #[] ∧ H = stoL bs bd q mb t ++ [X] ∧ BlobR q st s t) := by
 have hbg := Begin_bl bs bd q hq mb s st.x hbo (by omega) (by omega)
 have hpt := Put_bl X bs bd q mb s st.x st.i _ st.b hso.b.1 hbl hso.i (by omega) (by omega)
 have hsy := Sync_bl bs bd q mb s st.x (by omega) (by omega)
 have hin := Install_bl X hK bs bd q mb s st.x (by omega) (by omega)
 have hab := Abort_bl bs bd q mb s st.x (by omega) (by omega)
 unfold blV at hbg hpt hsy hin hab
 unfold st8V
 refine Ctr.enter Tryz.func35 (by kernel_rfl) rfl Tryz.ntmps35 rfl rfl ?_
 intro G F R hE
 refine K_ent (H' := X :: (stoL bs bd q mb s ++ F)) entA ?_
 refine K_regionA rfl ?_
 refine J_box rfl rfl (fun _ _ _ => trivial) ?_
 intro b3
 refine go ?_
 refine K_condP rfl rfl ?_ ?_
 ·intro h0
  refine go ?_
  refine J_loadAgg (U := tab) (cs := blC st.x) 0 rfl rfl rfl rfl rfl rfl ?_
  ((try refine go ?_); first | refine J_callE rfl rfl rfl rfl (hbg) entA ?_ (fun _ _ _ _ _ => trivial) | refine J_call0E rfl rfl rfl (hbg) entA ?_ (fun _ _ _ _ _ => trivial))
  rintro _ _ ⟨e, t, rfl, rfl, hR⟩
  refine go ?_
  refine K_ent (H' := stoL bs bd q mb t ++ (X :: F)) entA ?_
  (first | refine K_return hE Tryz.func35 rfl _ rfl ⟨t, rfl, rfl, .inr ⟨e, .inl hR⟩⟩ entA | refine K_fallEnd hE Tryz.func35 rfl _ rfl ⟨t, rfl, rfl, .inr ⟨e, .inl hR⟩⟩ entA)
 intro h0
 refine go ?_
 refine K_condP rfl rfl ?_ ?_
 ·intro h1
  refine go ?_
  refine J_loadAgg (U := tab) (cs := blC st.x) 0 rfl rfl rfl rfl rfl rfl ?_
  refine go ?_
  ((try refine go ?_); first | refine J_callE rfl rfl rfl rfl (hpt) entA ?_ (fun _ _ _ _ _ => trivial) | refine J_call0E rfl rfl rfl (hpt) entA ?_ (fun _ _ _ _ _ => trivial))
  rintro _ _ ⟨e, t, rfl, rfl, hR⟩
  refine go ?_
  refine K_ent (H' := stoL bs bd q mb t ++ (X :: F)) entA ?_
  (first | refine K_return hE Tryz.func35 rfl _ rfl ⟨t, rfl, rfl, .inr ⟨e, .inr (.inl hR)⟩⟩ entA | refine K_fallEnd hE Tryz.func35 rfl _ rfl ⟨t, rfl, rfl, .inr ⟨e, .inr (.inl hR)⟩⟩ entA)
 intro h1
 refine go ?_
 refine K_condP rfl rfl ?_ ?_
 ·intro h2
  refine go ?_
  refine J_loadAgg (U := tab) (cs := blC st.x) 0 rfl rfl rfl rfl rfl rfl ?_
  ((try refine go ?_); first | refine J_callE rfl rfl rfl rfl (hsy) entA ?_ (fun _ _ _ _ _ => trivial) | refine J_call0E rfl rfl rfl (hsy) entA ?_ (fun _ _ _ _ _ => trivial))
  rintro _ _ ⟨e, t, rfl, rfl, hR⟩
  refine go ?_
  refine K_ent (H' := stoL bs bd q mb t ++ (X :: F)) entA ?_
  (first | refine K_return hE Tryz.func35 rfl _ rfl ⟨t, rfl, rfl, .inr ⟨e, .inr (.inr (.inl hR))⟩⟩ entA | refine K_fallEnd hE Tryz.func35 rfl _ rfl ⟨t, rfl, rfl, .inr ⟨e, .inr (.inr (.inl hR))⟩⟩ entA)
 intro h2
 refine go ?_
 refine K_condP rfl rfl ?_ ?_
 ·intro h3
  refine go ?_
  refine J_loadAgg (U := tab) (cs := blC st.x) 0 rfl rfl rfl rfl rfl rfl ?_
  ((try refine go ?_); first | refine J_callE rfl rfl rfl rfl (hin) entA ?_ (fun _ _ _ _ _ => trivial) | refine J_call0E rfl rfl rfl (hin) entA ?_ (fun _ _ _ _ _ => trivial))
  rintro _ _ ⟨e, t, rfl, rfl, hR⟩
  refine go ?_
  refine K_ent (H' := stoL bs bd q mb t ++ (X :: F)) entA ?_
  (first | refine K_return hE Tryz.func35 rfl _ rfl ⟨t, rfl, rfl, .inr ⟨e, .inr (.inr (.inr (.inl hR)))⟩⟩ entA | refine K_fallEnd hE Tryz.func35 rfl _ rfl ⟨t, rfl, rfl, .inr ⟨e, .inr (.inr (.inr (.inl hR)))⟩⟩ entA)
 intro h3
 refine go ?_
 refine K_condP rfl rfl ?_ ?_
 ·intro h4
  refine go ?_
  refine J_loadAgg (U := tab) (cs := blC st.x) 0 rfl rfl rfl rfl rfl rfl ?_
  ((try refine go ?_); first | refine J_callE rfl rfl rfl rfl (hab) entA ?_ (fun _ _ _ _ _ => trivial) | refine J_call0E rfl rfl rfl (hab) entA ?_ (fun _ _ _ _ _ => trivial))
  rintro _ _ ⟨e, t, rfl, rfl, hR⟩
  refine go ?_
  refine K_ent (H' := stoL bs bd q mb t ++ (X :: F)) entA ?_
  (first | refine K_return hE Tryz.func35 rfl _ rfl ⟨t, rfl, rfl, .inr ⟨e, .inr (.inr (.inr (.inr hR)))⟩⟩ entA | refine K_fallEnd hE Tryz.func35 rfl _ rfl ⟨t, rfl, rfl, .inr ⟨e, .inr (.inr (.inr (.inr hR)))⟩⟩ entA)
 intro h4
 refine go ?_
 refine K_ent (H' := stoL bs bd q mb s ++ (X :: F)) entA ?_
 (first | refine K_return hE Tryz.func35 rfl _ rfl ⟨s, rfl, rfl, .inl rfl⟩ entA | refine K_fallEnd hE Tryz.func35 rfl _ rfl ⟨s, rfl, rfl, .inl rfl⟩ entA)
end Go.Proofs.YtpecmnaikjbanaaGreatDoor
/- blobs: the law Lasts: are the blobs and the images right? -/
namespace Go.Proofs.YtpecmnaikjbanaaGreatDoor
open Go Go.SL
attribute [local irreducible] J K Ctr Ends pts slc mapR mapI sbRow stock arrS loopP CtrY Sha.chunks Sha.chunk Sha.rounds Sha.sched sumL taggedL GI leafL diskA
theorem st8D {l : List ST8} {i : Nat} {s : ST8} (h : l[i]? = some s) (q : Nat) (v : Value) (hq : (dC s.x.d)[q]? = some v) : (l.flatMap st8C)[i * 72 + 1 + q]? = some v := by
 have hl := (List.getElem?_eq_some_iff.1 hq).1
 rw [dC_len] at hl
 rw [Nat.add_assoc]
 refine st8E h (1 + q) v ?_
 rw [Nat.add_comm]
 unfold st8C
 rw [List.getElem?_cons_succ, List.getElem?_append_left (by rw [blC_len]; omega)]
 exact blp0g hq
theorem kB_text (d : Dg) : Value.string (({ data := #[98, 45] } : ByteArray) ++ strOf (textL d)) = .string (fileN kB d) := by
 unfold fileN strOf kB
 refine congrArg Value.string ?_
 apply ByteArray.ext
 simp
set_option maxRecDepth 20000 in
set_option maxHeartbeats 1600000 in
theorem right8_any (X : HP) (bs bd : Nat) (q : Int) (mb : Nat) (brk : Bool) (A : Ab) (hg : Good A A.names) (hoff : A.off = false) (v : Value) (l : List ST8) (hv : Vw X v l.length (l.flatMap st8C)) (hll : l.length ≤ 9223372036854775807) :
  Ctr Tryz.prog 38 [ptr bd, ptr bs, v] [pts bs (cl (stC bd q mb brk) 92), diskA bd A, X] (fun r H => r = .bool true ∧ H = [pts bs (cl (stC bd q mb brk) 92), diskA bd A, X]) := by
 obtain ⟨a0, c0, rfl⟩ := hv.shape
 refine Ctr.enter Tryz.func38 (by kernel_rfl) rfl Tryz.ntmps38 rfl rfl ?_
 intro G F R hE
 refine K_ent (H' := X :: pts bs (cl (stC bd q mb brk) 92) :: diskA bd A :: F) entA ?_
 refine K_diskA (bd := bd) (A := A) 2 rfl ?_
 intro hdk
 refine go ?_
 refine K_mid 1 (fun _ : Unit => True) (fun _ => [(0, ptr bd), (1, ptr bs), (2, .slice a0 l.length c0)])
  (fun _ => X :: pts bs (cl (stC bd q mb brk) 92) :: diskA bd A :: F) rfl ?_ ?_
 case refine_2 =>
  intro tail
  refine K_loop (fun i : Nat => i ≤ l.length ∧ i ≤ 60) (fun i => l.length - i)
   (fun i => [(0, ptr bd), (1, ptr bs), (2, .slice a0 l.length c0), (7, .int .i64 (i : Int))])
   (fun _ => X :: pts bs (cl (stC bd q mb brk) 92) :: diskA bd A :: F) 0 ⟨Nat.zero_le _, by omega⟩ rfl (by repeat (first | exact keep_nil | refine keep_cons rfl ?_)) entA ?_
  rintro i ⟨hi, hi60⟩ ih
  refine go ?_
  by_cases hend : i < l.length ∧ i < 60
  case neg =>
   by_cases h1 : i < l.length
   ·(first | refine J_slot 25 ((.bool true)) rfl ((congrArg Value.bool (decide_eq_true (by omega)))) ?_ | refine K_slot 25 ((.bool true)) rfl ((congrArg Value.bool (decide_eq_true (by omega)))) ?_)
    refine go ?_
    (first | refine J_slot 28 ((.bool false)) rfl ((congrArg Value.bool (decide_eq_false (by omega)))) ?_ | refine K_slot 28 ((.bool false)) rfl ((congrArg Value.bool (decide_eq_false (by omega)))) ?_)
    (refine goR ?_)
    refine K_condF rfl rfl ?_
    refine K_to tail () rfl trivial (by repeat (first | exact keep_nil | refine keep_cons rfl ?_)) entA
   ·(first | refine J_slot 25 ((.bool false)) rfl ((congrArg Value.bool (decide_eq_false (by omega)))) ?_ | refine K_slot 25 ((.bool false)) rfl ((congrArg Value.bool (decide_eq_false (by omega)))) ?_)
    (refine goR ?_)
    refine K_condF rfl rfl ?_
    refine K_to tail () rfl trivial (by repeat (first | exact keep_nil | refine keep_cons rfl ?_)) entA
  obtain ⟨hi1, hi2⟩ := hend
  obtain ⟨st, hx⟩ : ∃ s, l[i]? = some s := ⟨l[i], by simp⟩
  obtain ⟨d, hd⟩ : ∃ d, d = st.x.d := ⟨_, rfl⟩
  have hdE := st8D hx
  rw [← hd] at hdE
  obtain ⟨bb, oo, cc, hsle⟩ := hv.some (by rw [← List.length_pos_iff, chunk_len st8C_len]; omega)
  simp only [Value.slice.injEq, true_and] at hsle
  obtain ⟨rfl, rfl⟩ := hsle
  have htx := Text_ref d
  have hhs := Has_any bs bd q mb brk A d
  unfold dV at htx hhs
  (first | refine J_slot 25 ((.bool true)) rfl ((congrArg Value.bool (decide_eq_true (by omega)))) ?_ | refine K_slot 25 ((.bool true)) rfl ((congrArg Value.bool (decide_eq_true (by omega)))) ?_)
  refine go ?_
  (first | refine J_slot 28 ((.bool true)) rfl ((congrArg Value.bool (decide_eq_true (by omega)))) ?_ | refine K_slot 28 ((.bool true)) rfl ((congrArg Value.bool (decide_eq_true (by omega)))) ?_)
  refine go ?_
  refine J_at (U := tab) i 72 rfl rfl rfl rfl rfl rfl rfl rfl hi1 ?_
  refine go ?_
  refine J_loadElem (U := tab) (es := dC d) 0 (i * 72 + 1) rfl rfl rfl hv (Nat.add_assoc _ _ _) hdE rfl rfl rfl ?_
  refine J_alloc (U := tab) rfl rfl rfl (fun _ _ _ => trivial) ?_
  intro b8
  refine go ?_
  refine J_loadArr (U := tab) (l := dC d) 0 rfl rfl rfl rfl rfl rfl ?_
  ((try refine go ?_); first | refine J_callE rfl rfl rfl rfl (htx) entA ?_ (fun _ _ _ _ _ => trivial) | refine J_call0E rfl rfl rfl (htx) entA ?_ (fun _ _ _ _ _ => trivial))
  rintro _ _ ⟨rfl, rfl⟩
  refine J_strAdd rfl rfl rfl (by show 2 + (textL d).length ≤ _; rw [textL_len]; omega) ?_
  (first | refine J_slot 41 ((.string (fileN kB d))) rfl ((kB_text d)) ?_ | refine K_slot 41 ((.string (fileN kB d))) rfl ((kB_text d)) ?_)
  ((try refine go ?_); first | refine J_callE rfl rfl rfl rfl (Size_dA bd A (fileN kB d)) entA ?_ (fun _ _ _ _ _ => trivial) | refine J_call0E rfl rfl rfl (Size_dA bd A (fileN kB d)) entA ?_ (fun _ _ _ _ _ => trivial))
  rintro _ _ ⟨rfl, rfl⟩
  cases hlk : A.look (fBd d) with
  | none =>
   have hs : A.size (fileN kB d) = (0, 4) := by unfold Ab.size; rw [show A.look (fileN kB d) = none from hlk]
   rw [hs]
   rw [show hasF A (fileN kB d) = false from by unfold hasF; rw [show A.look (fileN kB d) = none from hlk]; rfl] at hhs
   refine go ?_
   (first | refine K_ent (H' := pts b8 (cl (dC d) 30) :: X :: pts bs (cl (stC bd q mb brk) 92) :: diskA bd A :: F) entA ?_ | refine J_ent (H' := pts b8 (cl (dC d) 30) :: X :: pts bs (cl (stC bd q mb brk) 92) :: diskA bd A :: F) entA ?_)
   refine J_loadArr (U := tab) (l := dC d) 0 rfl rfl rfl rfl rfl rfl ?_
   ((try refine go ?_); first | refine J_callE rfl rfl rfl rfl (hhs) entA ?_ (fun _ _ _ _ _ => trivial) | refine J_call0E rfl rfl rfl (hhs) entA ?_ (fun _ _ _ _ _ => trivial))
   rintro _ _ ⟨rfl, rfl⟩
   refine go ?_
   refine K_again ih (i + 1) rfl (⟨by omega, by omega⟩) (by omega) (by repeat (first | exact keep_nil | refine keep_cons rfl ?_)) entA
  | some f =>
   have hs : A.size (fileN kB d) = ((A.now f).length, 0) := by unfold Ab.size; rw [show A.look (fileN kB d) = some f from hlk]
   rw [hs]
   rw [show hasF A (fileN kB d) = true from by unfold hasF; rw [show A.look (fileN kB d) = some f from hlk]; rfl] at hhs
   obtain ⟨_, hsum⟩ := hg.b d f hlk
   have hnl := hdk.now f
   have hrd := ReadS_any bs bd q mb brk A d 0 ((A.now f).length : Int)
   rw [readS_on hoff hlk] at hrd
   unfold dV at hrd
   refine go ?_
   (first | refine K_ent (H' := pts b8 (cl (dC d) 30) :: X :: pts bs (cl (stC bd q mb brk) 92) :: diskA bd A :: F) entA ?_ | refine J_ent (H' := pts b8 (cl (dC d) 30) :: X :: pts bs (cl (stC bd q mb brk) 92) :: diskA bd A :: F) entA ?_)
   refine J_loadArr (U := tab) (l := dC d) 0 rfl rfl rfl rfl rfl rfl ?_
   ((try refine go ?_); first | refine J_callE rfl rfl rfl rfl (hhs) entA ?_ (fun _ _ _ _ _ => trivial) | refine J_call0E rfl rfl rfl (hhs) entA ?_ (fun _ _ _ _ _ => trivial))
   rintro _ _ ⟨rfl, rfl⟩
   refine go ?_
   (first | refine K_ent (H' := pts b8 (cl (dC d) 30) :: X :: pts bs (cl (stC bd q mb brk) 92) :: diskA bd A :: F) entA ?_ | refine J_ent (H' := pts b8 (cl (dC d) 30) :: X :: pts bs (cl (stC bd q mb brk) 92) :: diskA bd A :: F) entA ?_)
   refine J_loadArr (U := tab) (l := dC d) 0 rfl rfl rfl rfl rfl rfl ?_
   refine go ?_
   ((try refine go ?_); first | refine J_callE rfl rfl rfl rfl (hrd) entA ?_ (fun _ _ _ _ _ => trivial) | refine J_call0E rfl rfl rfl (hrd) entA ?_ (fun _ _ _ _ _ => trivial))
   rintro _ _ ⟨rv, rfl, rfl⟩
   (first | refine J_shape 0 rfl ?_ | refine K_shape 0 rfl ?_)
   rintro ra rc rfl
   refine J_slcB (bs := A.now f) 0 rfl ?_
   intro hbr
   have hsm := Sum_ref _ _ (A.now f) hbr (by omega)
   rw [hsum] at hsm
   unfold dV at hsm
   refine go ?_
   (first | refine K_ent (H' := pts b8 (cl (dC d) 30) :: slc 5 1 (.slice ra (A.now f).length rc) (A.now f).length (bV (A.now f)) :: X :: pts bs (cl (stC bd q mb brk) 92) :: diskA bd A :: F) entA ?_ | refine J_ent (H' := pts b8 (cl (dC d) 30) :: slc 5 1 (.slice ra (A.now f).length rc) (A.now f).length (bV (A.now f)) :: X :: pts bs (cl (stC bd q mb brk) 92) :: diskA bd A :: F) entA ?_)
   refine K_drawA (fun w => Sat G w ([pts b8 (cl (dC d) 30)])) (.st 0 (.st 1 (.st 2 (.st 3 (.st 5 (.act 4 (.st 6 (.st 7 .nil)))))))) rfl (by kernel_rfl) (by kernel_rfl) (by kernel_rfl) (fun w hw => hw.ent entA) ?_
   refine go ?_
   refine J_loadArrS (U := tab) (l := dC d) 0 rfl rfl rfl rfl rfl rfl ?_
   refine go ?_
   (first | refine J_callE rfl rfl rfl rfl (hsm) entA ?_ (fun _ _ w hp hw => by obtain ⟨rfl, rfl⟩ := hp; exact hw.ent entA) | refine J_call0E rfl rfl rfl (hsm) entA ?_ (fun _ _ w hp hw => by obtain ⟨rfl, rfl⟩ := hp; exact hw.ent entA))
   rintro _ _ ⟨rfl, rfl⟩
   refine go ?_
   refine J_neAgg (b := decide (d = d)) rfl rfl rfl guDg (fun w => eqDg d d w) ?_
   rw [decide_eq_true (rfl : d = d)]
   refine go ?_
   refine K_again ih (i + 1) rfl (⟨by omega, by omega⟩) (by omega) (by repeat (first | exact keep_nil | refine keep_cons rfl ?_)) entA
 rintro ⟨⟩ -
 have hil : (imagesF A).length ≤ 200 := by
  have h1 := List.length_filterMap_le (hashN kI) (namesF A)
  have h2 := namesF_len hdk
  unfold imagesF
  omega
 have hims := Images_any bs bd q mb brk A
 have hmem := fun d => mem_imagesA A d
 generalize imagesF A = m at hil hims hmem
 refine go ?_
 ((try refine go ?_); first | refine J_callE rfl rfl rfl rfl (hims) entA ?_ (fun _ _ _ _ _ => trivial) | refine J_call0E rfl rfl rfl (hims) entA ?_ (fun _ _ _ _ _ => trivial))
 rintro rv _ rfl
 (first | refine J_shape 0 rfl ?_ | refine K_shape 0 rfl ?_)
 rintro va vc rfl
 refine J_slcVw 0 rfl ?_
 intro hvm
 refine go ?_
 refine K_loop (fun k : Nat => k ≤ m.length) (fun k => m.length - k)
  (fun k => [(1, ptr bs), (13, .slice va m.length vc), (14, .int .i64 (k : Int))])
  (fun _ => slc 30 32 (.slice va m.length vc) m.length (m.flatMap dC) :: X :: pts bs (cl (stC bd q mb brk) 92) :: diskA bd A :: F) 0 (Nat.zero_le _) rfl (by repeat (first | exact keep_nil | refine keep_cons rfl ?_)) entA ?_
 rintro k hk ih
 refine go ?_
 refine K_condP rfl rfl ?_ ?_
 ·intro hlt
  have hk' : k < m.length := by omega
  obtain ⟨d, hx⟩ : ∃ x, m[k]? = some x := ⟨m[k], by simp⟩
  have hdE := dgE8 hx
  obtain ⟨f, hf⟩ := Option.isSome_iff_exists.1 ((hmem d).1 (List.mem_of_getElem? hx))
  obtain ⟨_, y, hy1, hy2, hy3⟩ := hg.i d f hf
  have himF : imageF A d = some y := by
   unfold imageF bytesF
   rw [show A.look (fileN kI d) = some f from hf]
   simp only [hoff]
   exact hy1
  have hyi := imageF_ok himF
  obtain ⟨hy16, _, _⟩ := imageB_right hyi
  have him := ImageS_any bs bd q mb brk A d
  rw [himF] at him
  unfold dV at him
  obtain ⟨b, o, cap', hsl⟩ := hvm.some (by rw [← List.length_pos_iff, chunk_len dC_len]; omega)
  simp only [Value.slice.injEq] at hsl
  obtain ⟨rfl, _, rfl⟩ := hsl
  refine go ?_
  refine J_at (U := tab) k 32 rfl rfl rfl rfl rfl rfl rfl rfl hk' ?_
  refine J_loadElem (U := tab) (es := dC d) 0 (k * 32) rfl rfl rfl hvm rfl hdE rfl rfl rfl ?_
  ((try refine go ?_); first | refine J_callE rfl rfl rfl rfl (him) entA ?_ (fun _ _ _ _ _ => trivial) | refine J_call0E rfl rfl rfl (him) entA ?_ (fun _ _ _ _ _ => trivial))
  rintro _ _ ⟨rv, rfl, rfl⟩
  simp only [Option.getD_some, Option.isSome_some]
  unfold imV
  (first | refine J_shape 0 rfl ?_ | refine K_shape 0 rfl ?_)
  rintro ya yc rfl
  refine J_slcVw 0 rfl ?_
  intro hvy
  refine go ?_
  refine J_alloc (U := tab) rfl rfl rfl (fun _ _ _ => trivial) ?_
  intro b15
  refine go ?_
  (first | refine K_ent (H' := pts b15 (cl [.slice ya y.length yc] 55) :: slc 32 66 (.slice ya y.length yc) y.length (y.flatMap blC) :: slc 30 32 (.slice (some ⟨b, o, none⟩) m.length vc) m.length (m.flatMap dC) :: X :: pts bs (cl (stC bd q mb brk) 92) :: diskA bd A :: F) entA ?_ | refine J_ent (H' := pts b15 (cl [.slice ya y.length yc] 55) :: slc 32 66 (.slice ya y.length yc) y.length (y.flatMap blC) :: slc 30 32 (.slice (some ⟨b, o, none⟩) m.length vc) m.length (m.flatMap dC) :: X :: pts bs (cl (stC bd q mb brk) 92) :: diskA bd A :: F) entA ?_)
  refine J_loadArr (U := tab) (l := [.slice ya y.length yc]) 0 rfl rfl rfl rfl rfl rfl ?_
  have hnm := refName2 _ _ y hvy (by omega)
  rw [show nmB y = d from by unfold nmB; rw [if_pos hyi]; exact hy2] at hnm
  unfold imV dV at hnm
  ((try refine go ?_); first | refine J_callE rfl rfl rfl rfl (hnm) entA ?_ (fun _ _ _ _ _ => trivial) | refine J_call0E rfl rfl rfl (hnm) entA ?_ (fun _ _ _ _ _ => trivial))
  rintro _ _ ⟨rfl, rfl⟩
  refine go ?_
  refine J_alloc (U := tab) rfl rfl rfl (fun _ _ _ => trivial) ?_
  intro b17
  refine go ?_
  (first | refine K_ent (H' := pts b17 (cl (dC d) 30) :: slc 30 32 (.slice (some ⟨b, o, none⟩) m.length vc) m.length (m.flatMap dC) :: pts b15 (cl [.slice ya y.length yc] 55) :: slc 32 66 (.slice ya y.length yc) y.length (y.flatMap blC) :: X :: pts bs (cl (stC bd q mb brk) 92) :: diskA bd A :: F) entA ?_ | refine J_ent (H' := pts b17 (cl (dC d) 30) :: slc 30 32 (.slice (some ⟨b, o, none⟩) m.length vc) m.length (m.flatMap dC) :: pts b15 (cl [.slice ya y.length yc] 55) :: slc 32 66 (.slice ya y.length yc) y.length (y.flatMap blC) :: X :: pts bs (cl (stC bd q mb brk) 92) :: diskA bd A :: F) entA ?_)
  refine K_drawA (fun w => Sat G w ([pts b17 (cl (dC d) 30), slc 30 32 (.slice (some ⟨b, o, none⟩) m.length vc) m.length (m.flatMap dC)])) (.st 0 (.st 1 (.st 2 (.st 3 (.st 4 (.st 5 (.st 6 (.st 7 (.st 8 (.st 9 .nil)))))))))) rfl (by kernel_rfl) (by kernel_rfl) (by kernel_rfl) (fun w hw => hw.ent entA) ?_
  refine go ?_
  refine J_loadArrS (U := tab) (l := dC d) 0 rfl rfl rfl rfl rfl rfl ?_
  refine go ?_
  refine J_at (U := tab) k 32 rfl rfl rfl rfl rfl rfl rfl rfl hk' ?_
  refine go ?_
  refine J_isLoad ?_
  refine J_loadElemS (U := tab) (es := dC d) 1 (k * 32) rfl rfl rfl hvm rfl hdE rfl rfl rfl ?_
  refine go ?_
  refine J_neAgg (b := decide (d = d)) rfl rfl rfl guDg (fun w => eqDg d d w) ?_
  rw [decide_eq_true (rfl : d = d)]
  refine go ?_
  have ihO := ih
  clear ih
  refine K_loop (fun j : Nat => j ≤ y.length) (fun j => y.length - j)
   (fun j => [(1, ptr bs), (13, .slice (some ⟨b, o, none⟩) m.length vc), (14, .int .i64 (k : Int)), (15, ptr b15), (19, .int .i64 (j : Int))])
   (fun _ => pts b15 (cl [.slice ya y.length yc] 55) :: slc 32 66 (.slice ya y.length yc) y.length (y.flatMap blC) :: slc 30 32 (.slice (some ⟨b, o, none⟩) m.length vc) m.length (m.flatMap dC) :: X :: pts bs (cl (stC bd q mb brk) 92) :: diskA bd A :: F) 0 (Nat.zero_le _) rfl (by repeat (first | exact keep_nil | refine keep_cons rfl ?_)) entA ?_
  rintro j hj ih
  refine go ?_
  refine K_condP rfl rfl ?_ ?_
  ·intro hlt2
   have hj' : j < y.length := by omega
   obtain ⟨z, hz⟩ : ∃ x, y[j]? = some x := ⟨y[j], by simp⟩
   have hhz := Has_any bs bd q mb brk A z.d
   rw [show hasF A (fileN kB z.d) = true from hy3 z (List.mem_of_getElem? hz)] at hhz
   unfold dV at hhz
   obtain ⟨b2, o2, cap2, hsl2⟩ := hvy.some (blNe hj')
   simp only [Value.slice.injEq] at hsl2
   obtain ⟨rfl, _, rfl⟩ := hsl2
   refine go ?_
   refine J_at (U := tab) j 66 rfl rfl rfl rfl rfl rfl rfl rfl hj' ?_
   refine go ?_
   refine J_loadElem (U := tab) (es := dC z.d) 1 (j * 66) rfl rfl rfl hvy rfl (fun q w hq => blE hz q w (blp0g hq)) rfl rfl rfl ?_
   ((try refine go ?_); first | refine J_callE rfl rfl rfl rfl (hhz) entA ?_ (fun _ _ _ _ _ => trivial) | refine J_call0E rfl rfl rfl (hhz) entA ?_ (fun _ _ _ _ _ => trivial))
   rintro _ _ ⟨rfl, rfl⟩
   refine go ?_
   refine K_again ih (j + 1) rfl (by omega) (by omega) (by repeat (first | exact keep_nil | refine keep_cons rfl ?_)) entA
  ·intro hge2
   clear ih
   have ih := ihO
   refine go ?_
   refine K_again ih (k + 1) rfl (by omega) (by omega) (by repeat (first | exact keep_nil | refine keep_cons rfl ?_)) entA
 ·intro hge
  clear ih
  refine go ?_
  refine K_ent (H' := pts bs (cl (stC bd q mb brk) 92) :: diskA bd A :: X :: F) entA ?_
  (first | refine K_return hE Tryz.func38 rfl _ rfl ⟨rfl, rfl⟩ entA | refine K_fallEnd hE Tryz.func38 rfl _ rfl ⟨rfl, rfl⟩ entA)
end Go.Proofs.YtpecmnaikjbanaaGreatDoor
/- the program's disk: a plan. -/
namespace Go.Proofs.YtpecmnaikjbanaaGreatDoor
open Go Go.SL
attribute [local irreducible] J K Ctr Ends pts slc mapR mapI sbRow stock arrS
theorem Rel.setArrs' {D : Dk} {A : Ab} (h : Rel D A) {arrs' : Arrs} (hs : ∀ x ∈ D.arrs, x ∈ arrs') : Rel { D with arrs := arrs' } A :=
 ⟨h.room, h.off, h.names, h.states, h.fs.mono fun x y hxy => ⟨hxy.1, hxy.2.1.mono hs, hxy.2.2.mono hs⟩, h.writes.mono fun x y hxy => ⟨hxy.1, hxy.2.1, hxy.2.2.mono hs⟩, h.plan.mono hs, h.ids, h.known, h.knownW, h.nodup, h.smallF, h.smallW, h.smallN, h.smallR, h.smallP, h.full⟩
theorem dPlan_any (bd : Nat) (D : Dk) (A : Ab) (hR : Rel D A) (X : HP) (bv : Value) (b : List UInt8) (hv : Vw X bv b.length (bV b)) (hb : b.length ≤ 1000000000) :
  Ctr Tryz.prog 36 [ptr bd, bv] [disk bd D, X] (fun v H => ∃ D', Rel D' { A with plan := b } ∧ v = .tuple #[] ∧ H = [disk bd D', X]) := by
 obtain ⟨a0, c0, rfl⟩ := hv.shape
 obtain ⟨room, bm, sts, wrs, pln, off, maps, arrs, files, stb, wl⟩ := D
 refine Ctr.enter Tryz.func36 (by kernel_rfl) rfl Tryz.ntmps36 rfl rfl ?_
 intro G F R hE
 refine K_ent (disk_o _ _ _ _ _ _ _ _ _ _ _ _ _) ?_
 refine go ?_
 ((try refine go ?_); first | refine J_callE rfl rfl rfl rfl (Clone_bytes X _ b hv hb) entA ?_ (fun _ _ _ _ _ => trivial) | refine J_call0E rfl rfl rfl (Clone_bytes X _ b hv hb) entA ?_ (fun _ _ _ _ _ => trivial))
 rintro v1 _ rfl
 refine J_shape 0 rfl ?_
 rintro a1 c1 rfl
 refine go ?_
 refine K_ent (Ent.pick [0, 4] rfl) ?_
 refine K_ent (Ent.join _ _ _) ?_
 refine K_open (arrS_slcO 5 _ b _) ?_
 rintro arrs' ⟨hb', hsub⟩
 refine K_ent (Ent.pick [2, 3, 0, 4, 5, 6] rfl) ?_
 refine K_ent (disk_c _ _ _ _ _ _ _ _ _ _ _ _ _) ?_
 (first | refine K_return hE Tryz.func36 rfl _ rfl ⟨_, (hR.setArrs' hsub).setPlan' hb' hb, rfl, rfl⟩ entA | refine K_fallEnd hE Tryz.func36 rfl _ rfl ⟨_, (hR.setArrs' hsub).setPlan' hb' hb, rfl, rfl⟩ entA)
theorem Plan_dA (bd : Nat) (A : Ab) (X : HP) (bv : Value) (b : List UInt8) (hv : Vw X bv b.length (bV b)) (hb : b.length ≤ 1000000000) :
  Ctr Tryz.prog 36 [ptr bd, bv] [diskA bd A, X] (fun v H => v = .tuple #[] ∧ H = [diskA bd { A with plan := b }, X]) :=
 ctr_disk (by kernel_rfl) (fun D hR => dPlan_any bd D A hR X bv b hv hb) (by rintro v H ⟨D', hR, rfl, rfl⟩; exact ⟨_, ⟨rfl, rfl⟩, diskA_in hR _⟩)
end Go.Proofs.YtpecmnaikjbanaaGreatDoor
/- Engine, part V: the library's sort by a function, by the shelf's contracts. Nothing here names a program. -/
set_option linter.unusedSectionVars false
namespace Go.SL
open Go.Proofs Go.Shelf Go.RowKit Go.Lib Go.Sort
variable {P : Program} {ρ : Ren} {α : Type} [Inhabited α]
theorem cmpLays_of {g : FuncId} {cb : Array Value} {enc : α → List Value} {k : Nat} {cf : α → α → Int} (blk off size : Nat) (w : World)
  (hc : ∀ x y, Ctr P g (.agg (enc x).toArray :: .agg (enc y).toArray :: cb.toList) [] (fun r H => r = .int .i64 (cf x y) ∧ H = [])) : CmpLays P g cb enc k cf blk off size w := by
 intro m os dk hs x y
 generalize sortWorldK enc k w blk off m dk os = W
 have h1 : Sat { tape := W.tape, os := W.os, output := W.output, lo := W.drawn } W ([] ++ [old W]) := ⟨⟨rfl, Nat.le_refl _⟩, rfl, rfl, fun b => W.heap[b]?, fun _ _ h => h, Sep_one' fun _ => rfl⟩
 have h2 := (hc x y).2 _ W [old W] h1
 have he : (Value.agg (enc x).toArray :: Value.agg (enc y).toArray :: cb.toList).toArray = #[.agg (enc x).toArray, .agg (enc y).toArray] ++ cb := by
  apply Array.ext'; simp
 rw [he] at h2
 refine h2.mono ?_
 rintro e w' ⟨v, H, rfl, ⟨rfl, rfl⟩, hs'⟩
 exact ⟨rfl, grow_of_old hs'⟩
theorem flatK_list (enc : α → List Value) (k : Nat) (hk : ∀ x, (enc x).length = k) (d : Array α) : Sort.flatK enc k d = (d.toList.flatMap enc).toArray := by
 refine Sort.ext_get! (by simp [chunk_len hk]) fun t ht => ?_
 have ht' : t < d.size * k := by simpa using ht
 rw [Sort.get_flatK _ _ _ _ ht']
 have hk0 : 0 < k := by
  rcases Nat.eq_zero_or_pos k with h | h
  ·subst h; simp at ht'
  ·exact h
 have hq : t / k < d.size := Nat.div_lt_of_lt_mul (by rw [Nat.mul_comm]; exact ht')
 have hx : d.toList[t / k]? = some d[t / k]! := by
  rw [getElem!_pos d (t / k) hq]; simp [hq]
 have h1 := chunk_get hk hx (t % k) (Nat.mod_lt _ hk0)
 rw [Nat.div_add_mod' t k] at h1
 have hlt : t % k < (enc d[t / k]!).length := by rw [hk]; exact Nat.mod_lt _ hk0
 have hlt2 : t < (d.toList.flatMap enc).length := by rw [chunk_len hk]; simpa using ht'
 rw [getElem!_pos (enc d[t / k]!) (t % k) hlt, getElem!_pos (d.toList.flatMap enc).toArray t (by simpa using hlt2)]
 rw [List.getElem?_eq_getElem hlt2, List.getElem?_eq_getElem hlt] at h1
 exact (Option.some.inj h1).symm
theorem sortFunc_ctr (L : SlLaysF0.n6 P ρ) (k : Nat) (aE : ∀ w, (isAgg (ρ.t 24)).run P w = .ok true w) (zE : ∀ w, (Go.sizeOf (ρ.t 24)).run P w = .ok k w) (enc : α → List Value) (hk : ∀ x, (enc x).length = k) (h1 : ∀ x, ∀ v ∈ enc x, v.oneCell' = true) (cf : α → α → Int) (hO : SWO (ltOf cf)) (g : FuncId)
  (e : TypeId) (v : Value) (l : List α) (hen : P.funcs[ρ.f 6]?.map callable = some true) (eg : ∀ args w, (callFunc g args).run P w = .ok (.enter g args) w) (hc : ∀ x y, Ctr P g [.agg (enc x).toArray, .agg (enc y).toArray] [] (fun r H => r = .int .i64 (cf x y) ∧ H = []))
  (hsz : l.length < 4611686018427387904) (hT : ∀ x y, (ltOf cf) x y = false → (ltOf cf) y x = false → x = y) :
  Ctr P (ρ.f 6) [v, .func (.func g) #[] #[]] [slc e k v l.length (l.flatMap enc)] (fun r H => r = .tuple #[] ∧ H = [slc e k v l.length ((l.mergeSort fun x y => !(ltOf cf) y x).flatMap enc)]) := by
 refine ⟨hen, fun G w F hs => ?_⟩
 obtain ⟨t, o, u, hp, hpw, hA, hB, ⟨hl, hcase⟩, hBB, hd, he⟩ := hs
 rcases hcase with ⟨a0, rfl, hn, hemp⟩ | ⟨b, oo, cap, pre, junk, rfl, hpre, hn, hcap, hpt⟩
 ·have hl0 : l = [] := List.eq_nil_of_length_eq_zero hn
  subst hl0
  refine (AnyF.slices_SortFunc_none (P := P) (ρ := ρ) { L with } a0 0 (.func (.func g) #[] #[]) w).mono ?_
  rintro e' w' ⟨rfl, rfl⟩
  exact ⟨_, _, rfl, ⟨rfl, rfl⟩, t, o, u, hp, hpw, hA, hB, ⟨by simp, .inl ⟨a0, rfl, rfl, hemp⟩⟩, hBB, hd, he⟩
 ·have hs1 : Sat G w (pts b (cl (pre ++ l.flatMap enc ++ junk) e) :: F) := ⟨t, o, u, hp, hpw, hA, hB, hpt, hBB, hd, he⟩
  have hb := hs1.get (i := 0) rfl
  have hlt := hs1.lt (i := 0) rfl
  subst hpre
  have hH : Sort.HoldsK enc k w b pre.length l.toArray := by
   unfold Sort.HoldsK
   rw [flatK_list enc k hk]
   exact holds_mid hb
  have hS := AnyQ.slices_SortFunc_total L k aE zE enc hk h1 cf hO g #[] b pre.length cap l.toArray w eg (cmpLays_of b pre.length l.toArray.size w hc) hH hlt (by simpa using hsz) hT
  refine (by simpa using hS : Calls P (ρ.f 6) #[.slice (some ⟨b, pre.length, none⟩) l.length cap, .func (.func g) #[] #[]] w _).mono ?_
  rintro e' w' ⟨rfl, n, os, rfl⟩
  refine ⟨_, _, rfl, ⟨rfl, rfl⟩, ?_⟩
  have hml : (l.mergeSort fun x y => !(ltOf cf) y x).length = l.length := List.length_mergeSort _
  have h3 := (hs1.ahead n).mapB (Sort.putCells id pre.length (Sort.flatK enc k (l.mergeSort fun x y => !(ltOf cf) y x).toArray)) (l' := pre ++ (l.mergeSort fun x y => !(ltOf cf) y x).flatMap enc ++ junk) (by
   rw [flatK_list enc k hk]
   exact putCells_mid _ _ _ _ (by rw [chunk_len hk, chunk_len hk, hml]))
  have h4 := h3.grown os
  refine h4.ent ?_
  exact slc_closeN rfl hn (by rw [chunk_len hk, hml, ← hl]; exact hcap) (by rw [chunk_len hk, hml]) F
end Go.SL
/- Engine: two rows of bytes compared by bytealg.Compare; the order of their comparison. Nothing here names a program. -/
namespace Go.SL
open Go Go.Lib
theorem run_loadB {P : Program} {w : World} : ∀ (bs : List UInt8) (b o : Nat) (acc : ByteArray), (∀ j c, (bV bs)[j]? = some c → w.cell? ⟨b, o + j, none⟩ = some c) →
  (Extern.Bytes.loadBytes ⟨b, o, none⟩ bs.length acc).run P w = .ok ⟨acc.data ++ bs.toArray⟩ w
 | [], b, o, acc, _ => by simp [Extern.Bytes.loadBytes]
 | x :: l, b, o, acc, h => by
  have h0 : w.cell? ⟨b, o, none⟩ = some (.int .u8 (x.toNat : Int)) := h 0 _ rfl
  have ih := run_loadB (P := P) l b (o + 1) (acc.push (((x.toNat : Int)).toNat.toUInt8)) (fun j c hj => by
   have := h (j + 1) c (by simpa [bV] using hj)
   rwa [show o + 1 + j = o + (j + 1) from by omega])
  have e : (⟨b, o, none⟩ : Addr).add 1 = ⟨b, o + 1, none⟩ := Addr.add_eq _ _ _
  simp only [List.length_cons, Extern.Bytes.loadBytes, Sem.run_bind, run_load, h0, Result.andThen]
  rw [e, ih]
  congr 1
  apply ByteArray.ext
  simp [ByteArray.push]
theorem run_bytesOfV {P : Program} {A : HP} {v : Value} {bs : List UInt8} (hv : Vw A v bs.length (bV bs)) {G : Glob} {w : World} {H : List HP} (hw : Sat G w H) {i : Nat} (hi : getL H i = some A) : (Extern.Bytes.bytesOf v).run P w = .ok ⟨bs.toArray⟩ w := by
 obtain ⟨a0, cap, rfl, h0 | ⟨b, o, rfl, hc⟩⟩ := hv.cells hw hi
 ·have hb : bs = [] := by simpa [bV] using h0
  subst hb
  cases a0 with
  | none => rfl
  | some a1 => rfl
 ·have := run_loadB (P := P) bs b o .empty hc
  show (Extern.Bytes.loadBytes ⟨b, o, none⟩ bs.length .empty).run P w = _
  rw [this]
  congr 2
  simp
theorem run_cmpV {P : Program} {A B : HP} {v1 v2 : Value} {b1 b2 : List UInt8} (h1 : Vw A v1 b1.length (bV b1)) (h2 : Vw B v2 b2.length (bV b2)) {G : Glob} {w : World} {H : List HP} (hw : Sat G w H) {i j : Nat} (hi : getL H i = some A) (hj : getL H j = some B) :
  (Extern.BytealgCompare.compare #[v1, v2]).run P w = .ok (.int .i64 (compareBytes b1 b2)) w := by
 change Sem.run P (do pure (goInt (Extern.BytealgCompare.cmp (← Extern.Bytes.bytesOf v1) (← Extern.Bytes.bytesOf v2)))) w = _
 simp only [Sem.run_bind, run_bytesOfV h1 hw hi, run_bytesOfV h2 hw hj, Result.andThen, Sem.run_pure]
 rw [cmp_eq]
 rfl
section
variable {P : Program} {U : Tr} [hU : TabOk P U] {f : FuncId} {n : Nat} {R : Ending → World → Prop} {G : Glob} {k : List Item} {L : Lst} {H : List HP} {S : World → Prop} {all : Array Oper} {rest : Pl} {d : Tmp} {ty : TypeId} {pos : String} {af : Array Edge} {gd : Option (Nat × Bool)}
theorem J_cmpBytes {g : FuncId} {fn : Func} {args : Array Operand} {tys : Array TypeId} {A B : HP} {v1 v2 : Value} {b1 b2 : List UInt8} (i j : Nat) (hd : Nat.blt d n = true)
  (hf : P.funcs[g]? = some fn) (hb : fn.body = none) (hn : (fn.name == "runtime.NumGoroutine") = false) (hnx : (Extern.findNext fn).isNone = true) (he : Extern.find fn = some Extern.BytealgCompare.compare)
  (hargs : evs L args.toList [] = .mk [v1, v2]) (hi : getL H i = some A) (hj : getL H j = some B) (h1 : Vw A v1 b1.length (bV b1)) (h2 : Vw B v2 b2.length (bV b2))
  (h : J P f n R G S all rest k ((d, .int .i64 (compareBytes b1 b2)) :: L) H) :
  J P f n R G S all (.cons false true ⟨some d, .call { callee := .value (.func g), args := args, argTypes := tys }, ty, pos, af, gd⟩ rest) k L H := by
 refine J_read hd (fun a w ha hw => ?_) h
 have hav := evs_arr ha _ _ hargs
 simp only [execOp, resolve, Sem.run_bind, Act.eval, Deferred.ofValue, Sem.run_pure, Result.andThen_ok, invoke]
 rw [show Array.map (fun x => a.eval x) args = #[v1, v2] from hav]
 simp only [Array.empty_append, Array.append_empty]
 rw [run_extern hf hb hn hnx he, run_cmpV h1 h2 hw hi hj]
 rfl
end
/-! ## the order -/
theorem cmpB_self : ∀ a : List UInt8, compareBytes a a = 0
 | [] => rfl
 | x :: a => by
  unfold compareBytes
  rw [if_neg (UInt8.lt_irrefl x), if_neg (UInt8.lt_irrefl x)]
  exact cmpB_self a
theorem cmpB_eq : ∀ a b : List UInt8, compareBytes a b = 0 → a = b
 | [], [], _ => rfl
 | [], _ :: _, h => by simp [compareBytes] at h
 | _ :: _, [], h => by simp [compareBytes] at h
 | x :: a, y :: b, h => by
  unfold compareBytes at h
  split at h
  ·cases h
  split at h
  ·cases h
  rename_i h1 h2
  have : x = y := by
   have e1 : ¬ x.toNat < y.toNat := fun e => h1 (UInt8.lt_iff_toNat_lt.2 e)
   have e2 : ¬ y.toNat < x.toNat := fun e => h2 (UInt8.lt_iff_toNat_lt.2 e)
   exact UInt8.toNat_inj.1 (by omega)
  rw [this, cmpB_eq a b h]
theorem cmpB_anti : ∀ a b : List UInt8, compareBytes b a = - compareBytes a b
 | [], [] => rfl
 | [], _ :: _ => rfl
 | _ :: _, [] => rfl
 | x :: a, y :: b => by
  unfold compareBytes
  by_cases h1 : x < y
  ·have h2 : ¬ y < x := fun e => by rw [UInt8.lt_iff_toNat_lt] at h1 e; omega
   simp [h1, h2]
  ·by_cases h2 : y < x
   ·simp [h1, h2]
   ·simp only [h1, h2, if_false]
    exact cmpB_anti a b
theorem cmpB_trans : ∀ a b c : List UInt8, compareBytes a b < 0 → compareBytes b c < 0 → compareBytes a c < 0
 | [], [], c, h, _ => by simp [compareBytes] at h
 | [], _ :: _, [], _, h => by simp [compareBytes] at h
 | [], _ :: _, _ :: _, _, _ => by simp [compareBytes]
 | _ :: _, [], _, h, _ => by simp [compareBytes] at h
 | _ :: _, _ :: _, [], _, h => by simp [compareBytes] at h
 | x :: a, y :: b, z :: c, h1, h2 => by
  unfold compareBytes at h1 h2 ⊢
  simp only [UInt8.lt_iff_toNat_lt] at h1 h2 ⊢
  have ih := cmpB_trans a b c
  split at h1
  ·split at h2
   ·rw [if_pos (by omega)]; decide
   ·split at h2
    ·omega
    ·rw [if_pos (by omega)]; decide
  ·split at h1
   ·omega
   ·split at h2
    ·rw [if_pos (by omega)]; decide
    ·split at h2
     ·omega
     ·rw [if_neg (by omega), if_neg (by omega)]
      exact ih h1 h2
theorem cmpB_swo {α : Type} (g : α → List UInt8) : Sort.SWO (fun x y : α => decide (compareBytes (g x) (g y) < 0)) := by
 refine ⟨fun x => by simp [cmpB_self], fun x y z h1 h2 => ?_, fun x y z h1 h2 => ?_⟩
 ·rw [decide_eq_true_eq] at h1 h2 ⊢
  exact cmpB_trans _ _ _ h1 h2
 ·rw [decide_eq_false_iff_not] at h1 h2 ⊢
  have a1 := cmpB_anti (g x) (g y)
  have a2 := cmpB_anti (g y) (g z)
  have a3 := cmpB_anti (g x) (g z)
  intro h3
  rcases Int.lt_or_eq_of_le (show compareBytes (g y) (g x) ≤ 0 by omega) with h4 | h4
  ·have := cmpB_trans _ _ _ h4 h3
   omega
  ·rw [cmpB_eq _ _ h4] at h2
   omega
end Go.SL
/- The shelf's contracts laid at this seat (numbers as the kit's own command finds them). -/
namespace Go.Proofs.YtpecmnaikjbanaaGreatDoor
open Go Go.Shelf
def sortBl_ren : Go.Shelf.Ren := ⟨fun | 6 => 122 | 15 => 150 | 14 => 149 | 28 => 173 | 29 => 174 | 20 => 165 | 21 => 166 | 22 => 167 | 23 => 168 | 24 => 169 | 25 => 170 | 26 => 171 | 27 => 172 | 46 => 195 | 47 => 196 | 48 => 197 | 49 => 198 | 50 => 199 | 57 => 205 | n => n, fun | 22 => 50 | 24 => 32 | 25 => 154 | 3 => 3 | 39 => 120 | 0 => 0 | 53 => 129 | 55 => 128 | 4 => 4 | 46 => 201 | 45 => 200 | 50 => 205 | 5 => 5 | 9 => 9 | 66 => 223 | 70 => 227 | 76 => 232 | 77 => 233 | n => n, fun | n => n⟩
theorem sortBl : Go.Proofs.SlLaysF0.n6 Tryz.prog sortBl_ren := {
  mixed := by kernel_rfl,
  f6 := ⟨Tryz.f122.name, by decide, Tryz.func122.trans (congrArg some (by kernel_rfl))⟩,
  f14 := ⟨Tryz.f149.name, by decide, Tryz.func149.trans (congrArg some (by kernel_rfl))⟩,
  f15 := Tryz.func150.trans (congrArg some (by kernel_rfl)),
  f20 := ⟨Tryz.f165.name, by decide, Tryz.func165.trans (congrArg some (by kernel_rfl))⟩,
  f21 := ⟨Tryz.f166.name, by decide, Tryz.func166.trans (congrArg some (by kernel_rfl))⟩,
  f22 := ⟨Tryz.f167.name, by decide, Tryz.func167.trans (congrArg some (by kernel_rfl))⟩,
  f23 := ⟨Tryz.f168.name, by decide, Tryz.func168.trans (congrArg some (by kernel_rfl))⟩,
  f24 := ⟨Tryz.f169.name, by decide, Tryz.func169.trans (congrArg some (by kernel_rfl))⟩,
  f25 := ⟨Tryz.f170.name, by decide, Tryz.func170.trans (congrArg some (by kernel_rfl))⟩,
  f26 := ⟨Tryz.f171.name, by decide, Tryz.func171.trans (congrArg some (by kernel_rfl))⟩,
  f27 := ⟨Tryz.f172.name, by decide, Tryz.func172.trans (congrArg some (by kernel_rfl))⟩,
  f28 := Tryz.func173.trans (congrArg some (by kernel_rfl)),
  f29 := Tryz.func174.trans (congrArg some (by kernel_rfl)),
  f46 := ⟨Tryz.f195.name, by decide, Tryz.func195.trans (congrArg some (by kernel_rfl))⟩,
  f47 := Tryz.func196.trans (congrArg some (by kernel_rfl)),
  f48 := Tryz.func197.trans (congrArg some (by kernel_rfl)),
  f49 := ⟨Tryz.f198.name, by decide, Tryz.func198.trans (congrArg some (by kernel_rfl))⟩,
  f50 := ⟨Tryz.f199.name, by decide, Tryz.func199.trans (congrArg some (by kernel_rfl))⟩,
  f57 := ⟨Tryz.f205.name, by decide, Tryz.func205.trans (congrArg some (by kernel_rfl))⟩,
  t0 := Tryz.underlying0,
  a0 := Tryz.isAgg0,
  z0 := Tryz.sizeOf0,
  v0 := Tryz.zeroValue0,
  t3 := Tryz.underlying3,
  a3 := Tryz.isAgg3,
  z3 := Tryz.sizeOf3,
  v3 := Tryz.zeroValue3,
  t4 := Tryz.underlying4,
  a4 := Tryz.isAgg4,
  z4 := Tryz.sizeOf4,
  v4 := Tryz.zeroValue4,
  t5 := Tryz.underlying5,
  a5 := Tryz.isAgg5,
  z5 := Tryz.sizeOf5,
  v5 := Tryz.zeroValue5,
  t9 := Tryz.underlying9,
  a9 := Tryz.isAgg9,
  z9 := Tryz.sizeOf9,
  v9 := Tryz.zeroValue9,
  t22 := Tryz.underlying50,
  a22 := Tryz.isAgg50,
  z22 := Tryz.sizeOf50,
  v22 := Tryz.zeroValue50,
  t25 := Tryz.underlying154,
  a25 := Tryz.isAgg154,
  z25 := Tryz.sizeOf154,
  v25 := Tryz.zeroValue154,
  t39 := Tryz.underlying120,
  a39 := Tryz.isAgg120,
  z39 := Tryz.sizeOf120,
  v39 := Tryz.zeroValue120,
  t45 := Tryz.underlying200,
  a45 := Tryz.isAgg200,
  z45 := Tryz.sizeOf200,
  v45 := Tryz.zeroValue200,
  t46 := Tryz.underlying201,
  a46 := Tryz.isAgg201,
  z46 := Tryz.sizeOf201,
  v46 := Tryz.zeroValue201,
  t50 := Tryz.underlying205,
  a50 := Tryz.isAgg205,
  z50 := Tryz.sizeOf205,
  v50 := Tryz.zeroValue205,
  t53 := Tryz.underlying129,
  a53 := Tryz.isAgg129,
  z53 := Tryz.sizeOf129,
  v53 := Tryz.zeroValue129,
  t55 := Tryz.underlying128,
  a55 := Tryz.isAgg128,
  z55 := Tryz.sizeOf128,
  v55 := Tryz.zeroValue128,
  t66 := Tryz.underlying223,
  a66 := Tryz.isAgg223,
  z66 := Tryz.sizeOf223,
  v66 := Tryz.zeroValue223,
  t70 := Tryz.underlying227,
  a70 := Tryz.isAgg227,
  z70 := Tryz.sizeOf227,
  v70 := Tryz.zeroValue227,
  t76 := Tryz.underlying232,
  a76 := Tryz.isAgg232,
  z76 := Tryz.sizeOf232,
  v76 := Tryz.zeroValue232,
  t77 := Tryz.underlying233,
  a77 := Tryz.isAgg233,
  z77 := Tryz.sizeOf233,
  v77 := Tryz.zeroValue233 }
end Go.Proofs.YtpecmnaikjbanaaGreatDoor
/- blobs, part t: sweep. -/
namespace Go.Proofs.YtpecmnaikjbanaaGreatDoor
open Go Go.SL Go.Sort Go.Shelf
open Go.Lib (compareBytes)
attribute [local irreducible] J K Ctr Ends pts slc mapR mapI sbRow stock arrS loopP CtrY Sha.chunks Sha.chunk Sha.rounds Sha.sched sumL taggedL GI leafL diskA
theorem bCompare_any (A B : HP) (v1 v2 : Value) (b1 b2 : List UInt8) (h1 : Vw A v1 b1.length (bV b1)) (h2 : Vw B v2 b2.length (bV b2)) :
  Ctr Tryz.prog 151 [v1, v2] [A, B] (fun r H => r = .int .i64 (compareBytes b1 b2) ∧ H = [A, B]) := by
 refine Ctr.enter Tryz.func151 (by kernel_rfl) rfl Tryz.ntmps151 rfl rfl ?_
 intro G F R hE
 refine go ?_
 refine J_cmpBytes 0 1 rfl Tryz.func175 rfl rfl (by kernel_rfl) rfl rfl rfl rfl h1 h2 ?_
 refine go ?_
 (first | refine K_return hE Tryz.func151 rfl _ rfl ⟨rfl, rfl⟩ entA | refine K_fallEnd hE Tryz.func151 rfl _ rfl ⟨rfl, rfl⟩ entA)
def cfBl (x y : Bl) : Int := compareBytes x.d.bs y.d.bs
theorem dCompare_any (a b : Dg) : Ctr Tryz.prog 124 [dV a, dV b] [] (fun r H => r = .int .i64 (compareBytes a.bs b.bs) ∧ H = []) := by
 unfold dV
 refine Ctr.enter Tryz.func124 (by kernel_rfl) rfl Tryz.ntmps124 rfl rfl ?_
 intro G F R hE
 refine K_regionA rfl ?_
 refine J_box rfl rfl (fun _ _ _ => trivial) ?_
 intro b2
 refine J_box rfl rfl (fun _ _ _ => trivial) ?_
 intro b3
 refine go ?_
 refine K_drawA (fun w => Sat G w ([])) (.st 0 (.st 1 (.act 2 (.st 3 .nil)))) rfl (by kernel_rfl) (by kernel_rfl) (by kernel_rfl) (fun w hw => hw.ent entA) ?_
 refine go ?_
 refine J_sliceArr (U := tab) rfl rfl rfl rfl rfl ?_
 refine go ?_
 refine J_sliceArr (U := tab) rfl rfl rfl rfl rfl ?_
 have ha : Vw (pts b2 (cl (dC a) 30)) (.slice (some ⟨b2, 0, none⟩) 32 32) a.bs.length (bV a.bs) := (BAt.block a.len (dC_bV a)).1
 have hb : Vw (pts b3 (cl (dC b) 30)) (.slice (some ⟨b3, 0, none⟩) 32 32) b.bs.length (bV b.bs) := (BAt.block b.len (dC_bV b)).1
 (first | refine J_callE rfl rfl rfl rfl (bCompare_any _ _ _ _ a.bs b.bs ha hb) entA ?_ (fun _ _ w hp hw => by obtain ⟨rfl, rfl⟩ := hp; exact hw.ent entA) | refine J_call0E rfl rfl rfl (bCompare_any _ _ _ _ a.bs b.bs ha hb) entA ?_ (fun _ _ w hp hw => by obtain ⟨rfl, rfl⟩ := hp; exact hw.ent entA))
 rintro _ _ ⟨rfl, rfl⟩
 refine go ?_
 (first | refine K_return hE Tryz.func124 rfl _ rfl ⟨rfl, rfl⟩ entA | refine K_fallEnd hE Tryz.func124 rfl _ rfl ⟨rfl, rfl⟩ entA)
theorem sweep1_any (x y : Bl) : Ctr Tryz.prog 123 [blV x, blV y] [] (fun r H => r = .int .i64 (cfBl x y) ∧ H = []) := by
 have hc := dCompare_any x.d y.d
 unfold dV at hc
 unfold blV
 refine Ctr.enter Tryz.func123 (by kernel_rfl) rfl Tryz.ntmps123 rfl rfl ?_
 intro G F R hE
 refine K_regionA rfl ?_
 refine J_box rfl rfl (fun _ _ _ => trivial) ?_
 intro b2
 refine J_box rfl rfl (fun _ _ _ => trivial) ?_
 intro b3
 refine go ?_
 refine J_loadAgg (U := tab) 1 rfl rfl rfl rfl rfl rfl ?_
 refine go ?_
 refine J_loadAgg (U := tab) 0 rfl rfl rfl rfl rfl rfl ?_
 ((try refine go ?_); first | refine J_callE rfl rfl rfl rfl (hc) entA ?_ (fun _ _ _ _ _ => trivial) | refine J_call0E rfl rfl rfl (hc) entA ?_ (fun _ _ _ _ _ => trivial))
 rintro _ _ ⟨rfl, rfl⟩
 refine go ?_
 (first | refine K_return hE Tryz.func123 rfl _ rfl ⟨rfl, rfl⟩ entA | refine K_fallEnd hE Tryz.func123 rfl _ rfl ⟨rfl, rfl⟩ entA)
theorem twiceB_inj {l : List Bl} (h : twiceB l = false) : ∀ x ∈ l, ∀ y ∈ l, x.d = y.d → x = y := by
 induction l with
 | nil => intro x hx; cases hx
 | cons z l ih =>
  simp only [twiceB, Bool.or_eq_false_iff, List.any_eq_false, decide_eq_true_eq] at h
  intro x hx y hy hd
  rcases List.mem_cons.1 hx with e1 | hx
  ·rcases List.mem_cons.1 hy with e2 | hy
   ·rw [e1, e2]
   ·exact absurd (hd.symm.trans (by rw [e1])) (h.1 y hy)
  ·rcases List.mem_cons.1 hy with e2 | hy
   ·exact absurd (hd.trans (by rw [e2])) (h.1 x hx)
   ·exact ih h.2 x hx y hy hd
theorem imageB_once {l : List Bl} (h : imageB l = 0) : twiceB l = false := by
 unfold imageB at h
 split at h
 ·cases h
 ·split at h
  ·cases h
  ·rename_i h2; simpa using h2
theorem sortBl_any (v : Value) (l : List Bl) (hl : imageB l = 0) : Ctr Tryz.prog 122 [v, .func (.func 123) #[] #[] ] [slc 32 66 v l.length (l.flatMap blC)]
  (fun r H => r = .tuple #[] ∧ ∃ m : List Bl, m.Perm l ∧ H = [slc 32 66 v m.length (m.flatMap blC)]) := by
 obtain ⟨h16, h1, _⟩ := imageB_right hl
 have hinj := twiceB_inj (imageB_once hl)
 obtain ⟨z, hz⟩ : ∃ z, z ∈ l := by cases l with | nil => simp at h1 | cons z _ => exact ⟨z, List.mem_cons_self ..⟩
 haveI : Inhabited {x : Bl // x ∈ l} := ⟨⟨z, hz⟩⟩
 have hal : l.attach.length = l.length := List.length_attach
 have hfl : l.attach.flatMap (fun x => blC x.1) = l.flatMap blC := by
  have : (l.attach.map Subtype.val).flatMap blC = l.flatMap blC := by rw [List.attach_map_subtype_val]
  rw [List.flatMap_map] at this
  exact this
 have h := sortFunc_ctr (α := {x : Bl // x ∈ l}) (ρ := sortBl_ren) sortBl 66 Tryz.isAgg32 Tryz.sizeOf32 (fun x => blC x.1) (fun _ => rfl) (fun x v hv => by have := blC_one [x.1] v (by simpa using hv); exact this) (fun x y => cfBl x.1 y.1) (cmpB_swo (fun x : {x : Bl // x ∈ l} => x.1.d.bs)) 123 32 v l.attach (by kernel_rfl) (enters_of Tryz.func123 (by kernel_rfl) rfl) (fun x y => sweep1_any x.1 y.1) (by omega) (fun x y e1 e2 => by
  have a1 := cmpB_anti x.1.d.bs y.1.d.bs
  have e1 := of_decide_eq_false e1
  have e2 := of_decide_eq_false e2
  simp only [cfBl] at e1 e2
  have e3 := cmpB_eq x.1.d.bs y.1.d.bs (by omega)
  have e4 : x.1.d = y.1.d := by
   cases hx : x.1.d with
   | mk b hb => cases hy : y.1.d with
    | mk c hc => rw [hx, hy] at e3; simp only at e3; subst e3; rfl
  exact Subtype.ext (hinj _ x.2 _ y.2 e4))
 rw [hal, hfl] at h
 refine h.post ?_
 rintro r H ⟨rfl, rfl⟩
 refine ⟨rfl, (l.attach.mergeSort fun x y => !(ltOf fun x y : {x : Bl // x ∈ l} => cfBl x.1 y.1) y x).map Subtype.val, ?_, ?_⟩
 ·have h1 := (List.mergeSort_perm l.attach fun x y => !(ltOf fun x y : {x : Bl // x ∈ l} => cfBl x.1 y.1) y x).map Subtype.val
  rw [List.attach_map_subtype_val] at h1
  exact h1
 ·rw [List.length_map, List.length_mergeSort, hal, List.flatMap_map]
theorem CloneBl_any (A : HP) (v : Value) (l : List Bl) (hv : Vw A v l.length (l.flatMap blC)) (hl : l.length ≤ 1000000) :
  Ctr Tryz.prog 121 [v] [A] (fun r H => H = [slc 32 66 r l.length (l.flatMap blC), A]) := by
 obtain ⟨a, c, rfl⟩ := hv.shape
 refine Ctr.enter Tryz.func121 (by kernel_rfl) rfl Tryz.ntmps121 rfl rfl ?_
 intro G F R hE
 cases a with
 | none =>
  have hl0 : l = [] := by
   rcases Nat.eq_zero_or_pos l.length with h | h
   ·exact List.eq_nil_of_length_eq_zero h
   ·obtain ⟨b, o, cap', hsl⟩ := hv.some (blNe h)
    simp at hsl
  subst hl0
  refine go ?_
  refine K_ent (slc_lift 32 66 none _) ?_
  (first | refine K_return hE Tryz.func121 rfl _ rfl rfl entA | refine K_fallEnd hE Tryz.func121 rfl _ rfl rfl entA)
 | some a1 =>
  refine go ?_
  refine J_buildSlice1 (U := tab) (cs := []) rfl rfl rfl rfl rfl rfl rfl rfl rfl (fun _ _ _ => trivial) ?_
  intro b3
  refine J_ent (slc_row 32 66 b3 0 0 [] [] _ rfl (Nat.le_refl _) (by simp)) ?_
  refine go ?_
  refine J_append (U := tab) (mm := l.length) (news := l.flatMap blC) 0 1 rfl rfl rfl rfl rfl rfl rfl rfl rfl rfl rfl rfl hv (by rw [chunk_len blC_len]; rfl) (blC_one l) (by omega) (by show (0 + _) * 80 ≤ _; omega) (fun _ => rfl) (fun _ _ _ => trivial) ?_
  intro v1
  rw [Nat.zero_add, List.nil_append]
  refine go ?_
  (first | refine K_return hE Tryz.func121 rfl _ rfl rfl entA | refine K_fallEnd hE Tryz.func121 rfl _ rfl rfl entA)
set_option maxRecDepth 20000 in
set_option maxHeartbeats 1000000 in
theorem sweep_any (V : HP) (lv : Value) (l : List Bl) (hv : Vw V lv l.length (l.flatMap blC)) (hl : imageB l = 0) (bs bd : Nat) (q : Int) (mb : Nat) (brk : Bool) (A : Ab) (hst : A.states.length ≤ 900000000) :
  Ctr Tryz.prog 82 [ptr bs, imV lv] [pts bs (cl (stC bd q mb brk) 92), diskA bd A, V]
  (fun r H => ∃ (e : Nat) (B : Ab), r = .int .i64 (e : Int) ∧ H = [pts bs (cl (stC bd q mb brk) 92), diskA bd B, V] ∧ stSweep l A e B ∧ B.states.length ≤ A.states.length + 16 ∧ B.writes.length ≤ A.writes.length + 16) := by
 obtain ⟨h16, h1, _⟩ := imageB_right hl
 have hclone := CloneBl_any V lv l hv (by omega)
 obtain ⟨la, lc, rfl⟩ := hv.shape
 have hhas := fun A d => Has_any bs bd q mb brk A d
 have hfB := fun d => file_any kB d (by decide)
 unfold dV at hhas hfB
 unfold imV
 refine Ctr.enter Tryz.func82 (by kernel_rfl) rfl Tryz.ntmps82 rfl rfl ?_
 intro G F R hE
 refine K_regionA rfl ?_
 refine J_box rfl rfl (fun _ _ _ => trivial) ?_
 intro b3
 refine go ?_
 ((try refine go ?_); first | refine J_callE rfl rfl rfl rfl (kept_any bs bd q mb brk A) entA ?_ (fun _ _ _ _ _ => trivial) | refine J_call0E rfl rfl rfl (kept_any bs bd q mb brk A) entA ?_ (fun _ _ _ _ _ => trivial))
 rintro _ _ ⟨mk, es, rfl, hkm, rfl⟩
 refine go ?_
 ((try refine go ?_); first | refine J_callE rfl rfl rfl rfl (hclone) entA ?_ (fun _ _ _ _ _ => trivial) | refine J_call0E rfl rfl rfl (hclone) entA ?_ (fun _ _ _ _ _ => trivial))
 rintro rv _ rfl
 refine go ?_
 ((try refine go ?_); first | refine J_callE rfl rfl rfl rfl (sortBl_any rv l hl) entA ?_ (fun _ _ _ _ _ => trivial) | refine J_call0E rfl rfl rfl (sortBl_any rv l hl) entA ?_ (fun _ _ _ _ _ => trivial))
 rintro _ _ ⟨rfl, m, hmp, rfl⟩
 have hml : m.length = l.length := hmp.length_eq
 (first | refine J_shape 0 rfl ?_ | refine K_shape 0 rfl ?_)
 rintro va vc rfl
 refine J_slcVw 0 rfl ?_
 intro hvm
 refine go ?_
 refine K_loop (fun y : Nat × Ab => y.1 ≤ m.length ∧ y.2.states.length ≤ A.states.length + y.1 ∧ y.2.writes.length ≤ A.writes.length + y.1 ∧ ∀ e B, SweepL (keptF A) (m.drop y.1) y.2 e B → SweepL (keptF A) m A e B) (fun y => m.length - y.1)
  (fun y => [(0, ptr bs), (5, .map (some mk)), (17, .slice va m.length vc), (18, .int .i64 (m.length : Int)), (19, .int .i64 (y.1 : Int))])
  (fun y => slc 32 66 (.slice va m.length vc) m.length (m.flatMap blC) :: mapR dV mk es :: pts bs (cl (stC bd q mb brk) 92) :: diskA bd y.2 :: V :: F) (0, A) ⟨Nat.zero_le _, by simp, by simp, fun e B h => h⟩ rfl (by repeat (first | exact keep_nil | refine keep_cons rfl ?_)) entA ?_
 rintro ⟨i, B⟩ ⟨hi, hbs, hbw, hsc⟩ ih
 simp only at hi hbs hbw hsc
 dsimp only
 refine go ?_
 refine K_condP rfl rfl ?_ ?_
 ·intro hlt
  have hi' : i < m.length := by omega
  obtain ⟨y, hx⟩ : ∃ x, m[i]? = some x := ⟨m[i], by simp⟩
  have hdrop : m.drop i = y :: m.drop (i + 1) := by
   rw [List.drop_eq_getElem_cons hi']
   congr 1
   exact (List.getElem?_eq_some_iff.1 hx).2
  rw [hdrop] at hsc
  obtain ⟨b, o, cap', hsl⟩ := hvm.some (blNe hi')
  simp only [Value.slice.injEq] at hsl
  obtain ⟨rfl, _, rfl⟩ := hsl
  refine go ?_
  refine J_at (U := tab) i 66 rfl rfl rfl rfl rfl rfl rfl rfl hi' ?_
  refine J_loadElem (U := tab) (es := blC y) 0 (i * 66) rfl rfl rfl hvm rfl (blE hx) rfl rfl rfl ?_
  refine J_alloc (U := tab) rfl rfl rfl (fun _ _ _ => trivial) ?_
  intro b8
  refine go ?_
  refine J_loadAgg (U := tab) 0 rfl rfl rfl rfl rfl rfl ?_
  refine J_lookup (U := tab) (es := es) (key := y.d) 2 rfl kDg rfl rfl rfl rfl rfl rfl rfl rfl ?_
  rw [hkm y.d]
  by_cases hk : y.d ∈ keptF A
  ·have hsc2 : ∀ e B', SweepL (keptF A) (m.drop (i + 1)) B e B' → SweepL (keptF A) m A e B' := fun e B' h => hsc e B' (by unfold SweepL; rw [if_pos (.inl hk)]; exact h)
   rw [if_pos hk]
   refine go ?_
   refine K_again ih (i + 1, B) rfl ⟨by simp only; omega, by simp only; omega, by simp only; omega, hsc2⟩ (by simp only; omega) (by repeat (first | exact keep_nil | refine keep_cons rfl ?_)) entA
  ·rw [if_neg hk]
   refine go ?_
   refine J_loadAgg (U := tab) 0 rfl rfl rfl rfl rfl rfl ?_
   ((try refine go ?_); first | refine J_callE rfl rfl rfl rfl (hhas B y.d) entA ?_ (fun _ _ _ _ _ => trivial) | refine J_call0E rfl rfl rfl (hhas B y.d) entA ?_ (fun _ _ _ _ _ => trivial))
   rintro _ _ ⟨rfl, rfl⟩
   cases hh : hasF B (fileN kB y.d) with
   | false =>
    have hsc2 : ∀ e B', SweepL (keptF A) (m.drop (i + 1)) B e B' → SweepL (keptF A) m A e B' := fun e B' h => hsc e B' (by unfold SweepL; rw [if_pos (.inr hh)]; exact h)
    refine go ?_
    refine K_again ih (i + 1, B) rfl ⟨by simp only; omega, by simp only; omega, by simp only; omega, hsc2⟩ (by simp only; omega) (by repeat (first | exact keep_nil | refine keep_cons rfl ?_)) entA
   | true =>
    have hrem := Remove_dA bd B (fileN kB y.d) (by omega)
    obtain ⟨e1, B1, hrb⟩ : ∃ e1 B1, B.remove (isName (fileN kB y.d)) (fileN kB y.d) = (e1, B1) := ⟨_, _, rfl⟩
    rw [hrb] at hrem
    have hgr := grow_stRemove (A := B) (B := B1) (nm := fileN kB y.d) (e := e1) hrb.symm
    have hg1 := hgr.1
    have hg2 := hgr.2
    have hsc2 : ∀ e B', ((e1 ≠ 0 ∧ e = e1 ∧ B' = B1) ∨ (e1 = 0 ∧ SweepL (keptF A) (m.drop (i + 1)) B1 e B')) → SweepL (keptF A) m A e B' := fun e B' h => hsc e B' (by
     unfold SweepL
     rw [if_neg (by
      rintro (h | h)
      ·exact hk h
      ·rw [show hasF B (fB y) = true from hh] at h; cases h)]
     exact ⟨e1, B1, hrb.symm, h⟩)
    refine go ?_
    (first | refine K_ent (H' := pts b8 (cl (blC y) 32) :: slc 32 66 (.slice (some ⟨b, o, none⟩) m.length vc) m.length (m.flatMap blC) :: mapR dV mk es :: pts bs (cl (stC bd q mb brk) 92) :: diskA bd B :: V :: F) entA ?_ | refine J_ent (H' := pts b8 (cl (blC y) 32) :: slc 32 66 (.slice (some ⟨b, o, none⟩) m.length vc) m.length (m.flatMap blC) :: mapR dV mk es :: pts bs (cl (stC bd q mb brk) 92) :: diskA bd B :: V :: F) entA ?_)
    refine K_drawA (fun w => Sat G w ([pts b8 (cl (blC y) 32), pts bs (cl (stC bd q mb brk) 92)])) (.st 0 (.st 1 (.st 2 (.st 3 (.st 4 (.st 5 (.act 6 (.act 7 (.st 8 .nil))))))))) rfl (by kernel_rfl) (by kernel_rfl) (by kernel_rfl) (fun w hw => hw.ent entA) ?_
    refine go ?_
    refine J_loadAggS (U := tab) 0 rfl rfl rfl rfl rfl rfl ?_
    refine go ?_
    (first | refine J_callE rfl rfl rfl rfl (hfB y.d) entA ?_ (fun _ _ w hp hw => by obtain ⟨rfl, rfl⟩ := hp; exact hw.ent entA) | refine J_call0E rfl rfl rfl (hfB y.d) entA ?_ (fun _ _ w hp hw => by obtain ⟨rfl, rfl⟩ := hp; exact hw.ent entA))
    rintro _ _ ⟨rfl, rfl⟩
    refine go ?_
    (first | refine J_callE rfl rfl rfl rfl (hrem) entA ?_ (fun _ _ w hp hw => by obtain ⟨rfl, rfl⟩ := hp; exact hw.ent entA) | refine J_call0E rfl rfl rfl (hrem) entA ?_ (fun _ _ w hp hw => by obtain ⟨rfl, rfl⟩ := hp; exact hw.ent entA))
    rintro _ _ ⟨rfl, rfl⟩
    refine go ?_
    refine K_condP rfl rfl ?_ ?_
    ·intro hne
     have hne' : e1 ≠ 0 := by simp only at hne; omega
     refine go ?_
     refine K_ent (H' := pts bs (cl (stC bd q mb brk) 92) :: diskA bd B1 :: V :: F) entA ?_
     (first | refine K_return hE Tryz.func82 rfl _ rfl ⟨e1, B1, rfl, rfl, ⟨m, hmp, hsc2 e1 B1 (.inl ⟨hne', rfl, rfl⟩)⟩, by omega, by omega⟩ entA | refine K_fallEnd hE Tryz.func82 rfl _ rfl ⟨e1, B1, rfl, rfl, ⟨m, hmp, hsc2 e1 B1 (.inl ⟨hne', rfl, rfl⟩)⟩, by omega, by omega⟩ entA)
    ·intro heq
     have heq' : e1 = 0 := by simp only at heq; omega
     refine go ?_
     refine K_again ih (i + 1, B1) rfl ⟨by simp only; omega, by simp only; omega, by simp only; omega, fun e B' h => hsc2 e B' (.inr ⟨heq', h⟩)⟩ (by simp only; omega) (by repeat (first | exact keep_nil | refine keep_cons rfl ?_)) entA
 ·intro hge
  have hie : i = m.length := by omega
  rw [hie, List.drop_length] at hsc
  clear ih
  refine go ?_
  refine K_ent (H' := pts bs (cl (stC bd q mb brk) 92) :: diskA bd B :: V :: F) entA ?_
  (first | refine K_return hE Tryz.func82 rfl _ rfl ⟨0, B, rfl, rfl, ⟨m, hmp, hsc 0 B (by unfold SweepL; exact ⟨rfl, rfl⟩)⟩, by omega, by omega⟩ entA | refine K_fallEnd hE Tryz.func82 rfl _ rfl ⟨0, B, rfl, rfl, ⟨m, hmp, hsc 0 B (by unfold SweepL; exact ⟨rfl, rfl⟩)⟩, by omega, by omega⟩ entA)
end Go.Proofs.YtpecmnaikjbanaaGreatDoor
/- blobs, part v: Drop. -/
namespace Go.Proofs.YtpecmnaikjbanaaGreatDoor
open Go Go.SL
attribute [local irreducible] J K Ctr Ends pts slc mapR mapI sbRow stock arrS loopP CtrY Sha.chunks Sha.chunk Sha.rounds Sha.sched sumL taggedL GI leafL diskA
theorem drop1_any (bs bd b2 b3 : Nat) (q : Int) (mb : Nat) (brk : Bool) (d : Dg) (A : Ab) (hst : A.states.length ≤ 1000000000) :
  Ctr Tryz.prog 80 [ptr b2, ptr b3] (pts bs (cl (stC bd q mb brk) 92) :: diskA bd A :: [pts b3 (cl (dC d) 30), pts b2 (cl [ptr bs] 35)])
   (fun r H => ∃ (e : Nat) (B : Ab), r = .int .i64 (e : Int) ∧ H = pts bs (cl (stC bd q mb brk) 92) :: diskA bd B :: [pts b3 (cl (dC d) 30), pts b2 (cl [ptr bs] 35)] ∧ stRemove (fileN kI d) A e B) := by
 have hf := file_any kI d (by decide)
 unfold dV at hf
 refine Ctr.enter Tryz.func80 (by kernel_rfl) rfl Tryz.ntmps80 rfl rfl ?_
 intro G F R hE
 refine go ?_
 refine K_drawA (fun w => Sat G w ([pts bs (cl (stC bd q mb brk) 92), pts b2 (cl [ptr bs] 35), pts b3 (cl (dC d) 30)])) (.st 0 (.st 1 (.st 2 (.st 3 (.st 4 (.act 5 (.act 6 (.st 7 .nil)))))))) rfl (by kernel_rfl) (by kernel_rfl) (by kernel_rfl) (fun w hw => hw.ent entA) ?_
 refine go ?_
 refine J_loadArrS (U := tab) (l := dC d) 2 rfl rfl rfl rfl rfl rfl ?_
 refine go ?_
 (first | refine J_callE rfl rfl rfl rfl (hf) entA ?_ (fun _ _ w hp hw => by obtain ⟨rfl, rfl⟩ := hp; exact hw.ent entA) | refine J_call0E rfl rfl rfl (hf) entA ?_ (fun _ _ w hp hw => by obtain ⟨rfl, rfl⟩ := hp; exact hw.ent entA))
 rintro _ _ ⟨rfl, rfl⟩
 refine go ?_
 (first | refine J_callE rfl rfl rfl rfl (Remove_dA bd A (fileN kI d) hst) entA ?_ (fun _ _ w hp hw => by obtain ⟨rfl, rfl⟩ := hp; exact hw.ent entA) | refine J_call0E rfl rfl rfl (Remove_dA bd A (fileN kI d) hst) entA ?_ (fun _ _ w hp hw => by obtain ⟨rfl, rfl⟩ := hp; exact hw.ent entA))
 rintro _ _ ⟨rfl, rfl⟩
 refine go ?_
 (first | refine K_return hE Tryz.func80 rfl _ rfl ⟨_, _, rfl, rfl, rfl⟩ entA | refine K_fallEnd hE Tryz.func80 rfl _ rfl ⟨_, _, rfl, rfl, rfl⟩ entA)
theorem drop2_any (bs bd b2 b5 : Nat) (q : Int) (mb : Nat) (brk : Bool) (V : HP) (lv : Value) (l : List Bl) (hv : Vw V lv l.length (l.flatMap blC)) (hl : imageB l = 0) (A : Ab) (hst : A.states.length ≤ 900000000) :
  Ctr Tryz.prog 81 [ptr b2, ptr b5] (pts bs (cl (stC bd q mb brk) 92) :: diskA bd A :: [pts b2 (cl [ptr bs] 35), pts b5 (cl [lv] 55), V])
   (fun r H => ∃ (e : Nat) (B : Ab), r = .int .i64 (e : Int) ∧ H = pts bs (cl (stC bd q mb brk) 92) :: diskA bd B :: [pts b2 (cl [ptr bs] 35), pts b5 (cl [lv] 55), V] ∧ (stSweep l A e B ∧ B.states.length ≤ A.states.length + 16 ∧ B.writes.length ≤ A.writes.length + 16)) := by
 have hsw := sweep_any V lv l hv hl bs bd q mb brk A hst
 obtain ⟨a, c, rfl⟩ := hv.shape
 unfold imV at hsw
 refine Ctr.enter Tryz.func81 (by kernel_rfl) rfl Tryz.ntmps81 rfl rfl ?_
 intro G F R hE
 refine go ?_
 refine J_loadArr (U := tab) (l := [.slice a l.length c]) 3 rfl rfl rfl rfl rfl rfl ?_
 ((try refine go ?_); first | refine J_callE rfl rfl rfl rfl (hsw) entA ?_ (fun _ _ _ _ _ => trivial) | refine J_call0E rfl rfl rfl (hsw) entA ?_ (fun _ _ _ _ _ => trivial))
 rintro _ _ ⟨e, B, rfl, rfl, h1, h2, h3⟩
 refine go ?_
 refine K_ent (H' := pts bs (cl (stC bd q mb brk) 92) :: diskA bd B :: [pts b2 (cl [ptr bs] 35), pts b5 (cl [.slice a l.length c] 55), V] ++ F) entA ?_
 (first | refine K_return hE Tryz.func81 rfl _ rfl ⟨_, _, rfl, rfl, h1, h2, h3⟩ entA | refine K_fallEnd hE Tryz.func81 rfl _ rfl ⟨_, _, rfl, rfl, h1, h2, h3⟩ entA)
def drX (bs b2 b3 b5 : Nat) (d : Dg) (lv : Value) (l : List Bl) : List HP := [pts b3 (cl (dC d) 30), pts b2 (cl [ptr bs] 35), pts b5 (cl [lv] 55), slc 32 66 lv l.length (l.flatMap blC)]
def drF (bd b2 b3 b5 : Nat) : List Value := [.func (.func 80) #[] #[ptr b2, ptr b3], .func (.func 81) #[] #[ptr b2, ptr b5], .func (.func 51) #[ptr bd] #[] ]
theorem dr_steps (bs bd : Nat) (q : Int) (mb : Nat) (brk : Bool) (b2 b3 b5 : Nat) (d : Dg) (lv : Value) (l : List Bl) (hv : Vw (slc 32 66 lv l.length (l.flatMap blC)) lv l.length (l.flatMap blC)) (hl : imageB l = 0) (A : Ab) (hst : A.states.length ≤ 800000000) (hwl : A.writes.length ≤ 800000000) :
  All2 (StpOk (stX bs bd q mb brk (Sep (drX bs b2 b3 b5 d lv l))) A) (drF bd b2 b3 b5) [stRemove (fileN kI d), stSweep l, stSyncNames] := by
 refine All2.cons (All2.cons (All2.one ?_) ?_) ?_
 ·refine stpOk_of (by omega) (by omega) (fun y h1 h2 => ?_) (fun _ _ _ h => grow_stSyncNames h)
  exact names_X bs bd q mb brk (drX bs b2 b3 b5 d lv l) y
 ·refine ⟨_, _, _, rfl, fun j hj y hy => ?_⟩
  have h := ctr_stXl [pts b3 (cl (dC d) 30)] (Xs := [pts b2 (cl [ptr bs] 35), pts b5 (cl [lv] 55), slc 32 66 lv l.length (l.flatMap blC)]) (p := fun e B => stSweep l y e B ∧ B.states.length ≤ y.states.length + 16 ∧ B.writes.length ≤ y.writes.length + 16) (drop2_any bs bd b2 b5 q mb brk _ lv l hv hl y (by have := hy.1; omega))
  refine h.post ?_
  rintro r H ⟨e, B, rfl, rfl, h1, h2, h3⟩
  exact ⟨e, B, rfl, rfl, h1, fun _ => ⟨by have := hy.1; omega, by have := hy.2; omega⟩⟩
 ·refine stpOk_of (by omega) (by omega) (fun y h1 h2 => ?_) (fun _ _ _ h => grow_stRemove h)
  exact ctr_stXr (Xs := [pts b3 (cl (dC d) 30), pts b2 (cl [ptr bs] 35)]) [pts b5 (cl [lv] 55), slc 32 66 lv l.length (l.flatMap blC)] (p := stRemove (fileN kI d) y) (drop1_any bs bd b2 b3 q mb brk d y h1)
set_option maxRecDepth 20000 in
set_option maxHeartbeats 1000000 in
theorem Drop_bl (bs bd : Nat) (q : Int) (mb : Nat) (s : Sto) (d : Dg) (hst : s.A.states.length ≤ 800000000) (hwl : s.A.writes.length ≤ 800000000) :
  Ctr Tryz.prog 29 [ptr bs, dV d] (stoL bs bd q mb s)
  (fun r H => ∃ (e : Nat) (t : Sto), r = .int .i64 (e : Int) ∧ H = stoL bs bd q mb t ∧ DropS d s e t) := by
 obtain ⟨A, beg, brk⟩ := s
 simp only at hst hwl
 have himg := ImageS_any bs bd q mb brk A d
 unfold dV at himg ⊢
 refine Ctr.enter Tryz.func29 (by kernel_rfl) rfl Tryz.ntmps29 rfl rfl ?_
 intro G F R hE
 refine K_ent (H' := pts bs (cl (stC bd q mb brk) 92) :: mapR dV mb (begE beg) :: diskA bd A :: F) (Ent.refl _) ?_
 refine K_regionA rfl ?_
 refine J_box rfl rfl (fun _ _ _ => trivial) ?_
 intro b2
 refine J_box rfl rfl (fun _ _ _ => trivial) ?_
 intro b3
 cases brk with
 | true =>
  refine go ?_
  refine K_ent (H' := stoL bs bd q mb ⟨A, beg, true⟩ ++ F) entA ?_
  (first | refine K_return hE Tryz.func29 rfl _ rfl ⟨10, ⟨A, beg, true⟩, rfl, rfl, by unfold DropS; rw [if_pos rfl]; exact ⟨rfl, rfl⟩⟩ entA | refine K_fallEnd hE Tryz.func29 rfl _ rfl ⟨10, ⟨A, beg, true⟩, rfl, rfl, by unfold DropS; rw [if_pos rfl]; exact ⟨rfl, rfl⟩⟩ entA)
 | false =>
  refine go ?_
  refine J_loadArr (U := tab) (l := dC d) 0 rfl rfl rfl rfl rfl rfl ?_
  ((try refine go ?_); first | refine J_callE rfl rfl rfl rfl (himg) entA ?_ (fun _ _ _ _ _ => trivial) | refine J_call0E rfl rfl rfl (himg) entA ?_ (fun _ _ _ _ _ => trivial))
  rintro _ _ ⟨rv, rfl, rfl⟩
  unfold imV
  (first | refine J_shape 0 rfl ?_ | refine K_shape 0 rfl ?_)
  rintro ra rc rfl
  refine go ?_
  refine J_alloc (U := tab) rfl rfl rfl (fun _ _ _ => trivial) ?_
  intro b5
  refine go ?_
  cases him : imageF A d with
  | none =>
   have hD : DropS d ⟨A, beg, false⟩ 4 ⟨A, beg, false⟩ := by unfold DropS; rw [if_neg (by simp), him]; exact ⟨rfl, rfl⟩
   refine go ?_
   refine K_ent (H' := stoL bs bd q mb ⟨A, beg, false⟩ ++ F) entA ?_
   (first | refine K_return hE Tryz.func29 rfl _ rfl ⟨4, ⟨A, beg, false⟩, rfl, rfl, hD⟩ entA | refine K_fallEnd hE Tryz.func29 rfl _ rfl ⟨4, ⟨A, beg, false⟩, rfl, rfl, hD⟩ entA)
  | some l =>
   have hok := imageF_ok him
   have hD : ∀ e t, chgS [stRemove (fileN kI d), stSweep l, stSyncNames] ⟨A, beg, false⟩ e t → DropS d ⟨A, beg, false⟩ e t := fun e t h => by unfold DropS; rw [if_neg (by simp), him]; exact h
   simp only [Option.getD_some, Option.isSome_some]
   refine go ?_
   (first | refine K_ent (H' := slc 32 66 (.slice ra l.length rc) l.length (l.flatMap blC) :: pts b5 (cl [.slice ra l.length rc] 55) :: pts b3 (cl (dC d) 30) :: pts b2 (cl [ptr bs] 35) :: pts bs (cl (stC bd q mb false) 92) :: mapR dV mb (begE beg) :: diskA bd A :: F) entA ?_ | refine J_ent (H' := slc 32 66 (.slice ra l.length rc) l.length (l.flatMap blC) :: pts b5 (cl [.slice ra l.length rc] 55) :: pts b3 (cl (dC d) 30) :: pts b2 (cl [ptr bs] 35) :: pts bs (cl (stC bd q mb false) 92) :: mapR dV mb (begE beg) :: diskA bd A :: F) entA ?_)
   refine K_slcVw 0 rfl ?_
   intro hvl
   refine K_drawA (fun w => Sat G w [stE bs bd q mb, pts b2 (cl [ptr bs] 35)]) (.st 0 (.st 1 (.st 2 (.st 3 (.st 4 (.st 5 (.st 6 (.st 7 (.act 8 (.act 9 (.st 10 .nil))))))))))) rfl (by kernel_rfl) (by kernel_rfl) (by kernel_rfl) (fun w hw => hw.ent (Ent.trans (H2 := [pts bs (cl (stC bd q mb false) 92), pts b2 (cl [ptr bs] 35)]) entA (stE_in bs bd q mb _ _))) ?_
   refine go ?_
   refine J_isLoad ?_
   refine J_loadS (U := tab) rfl rfl (fun w hw => stE_cell hw) rfl rfl ?_
   refine go ?_
   refine J_buildSlice1 (U := tab) (cs := drF bd b2 b3 b5) rfl rfl rfl rfl rfl rfl rfl rfl rfl (fun _ w hw => by exact hw.ent (Ent.trans (H2 := [pts bs (cl (stC bd q mb false) 92), pts b2 (cl [ptr bs] 35)]) entA (stE_in bs bd q mb _ _))) ?_
   intro row
   have hch := changeA_any bs bd q mb false (Sep (drX bs b2 b3 b5 d (.slice ra l.length rc) l)) (pts row (cl (drF bd b2 b3 b5) 95)) (.slice (some ⟨row, 0, none⟩) 3 3) (drF bd b2 b3 b5) (Vw.pts rfl) (by show 3 ≤ _; omega) [stRemove (fileN kI d), stSweep l, stSyncNames] A (dr_steps bs bd q mb false b2 b3 b5 d _ l hvl hok A hst hwl)
   refine J_ent (H' := pts row (cl (drF bd b2 b3 b5) 95) :: stX bs bd q mb false (Sep (drX bs b2 b3 b5 d (.slice ra l.length rc) l)) A :: mapR dV mb (begE beg) :: F) (Ent.trans (H2 := pts bs (cl (stC bd q mb false) 92) :: diskA bd A :: (drX bs b2 b3 b5 d (.slice ra l.length rc) l ++ (pts row (cl (drF bd b2 b3 b5) 95) :: mapR dV mb (begE beg) :: F))) entA (Ent.trans (stX_in bs bd q mb false _ A _) entA)) ?_
   refine J_callE rfl rfl rfl rfl hch entA ?_ (fun _ _ w hp hw => by
    obtain ⟨e, B, rfl, rfl, hruns⟩ := hp
    exact hw.ent (Ent.trans (Ent.pick [1] rfl) (Ent.trans (stX_out bs bd q mb (or false (decide (e ≠ 0))) _ B _) (Ent.trans (H2 := [pts bs (cl (stC bd q mb (or false (decide (e ≠ 0)))) 92), pts b2 (cl [ptr bs] 35)]) entA (stE_in bs bd q mb _ _)))))
   rintro _ _ ⟨e, B, rfl, rfl, hruns⟩
   refine J_ent (Ent.trans (Ent.pick [1] rfl) (stX_out bs bd q mb (or false (decide (e ≠ 0))) _ B _)) ?_
   refine go ?_
   refine K_ent (H' := stoL bs bd q mb ⟨B, beg, or false (decide (e ≠ 0))⟩ ++ F) entA ?_
   (first | refine K_return hE Tryz.func29 rfl _ rfl ⟨e, ⟨B, beg, or false (decide (e ≠ 0))⟩, rfl, rfl, hD _ _ ⟨B, hruns, rfl⟩⟩ entA | refine K_fallEnd hE Tryz.func29 rfl _ rfl ⟨e, ⟨B, beg, or false (decide (e ≠ 0))⟩, rfl, rfl, hD _ _ ⟨B, hruns, rfl⟩⟩ entA)
end Go.Proofs.YtpecmnaikjbanaaGreatDoor
/- blobs: the law Lasts, its walk. -/
namespace Go.Proofs.YtpecmnaikjbanaaGreatDoor
open Go Go.SL
attribute [local irreducible] J K Ctr Ends pts slc mapR mapI sbRow stock arrS loopP CtrY Sha.chunks Sha.chunk Sha.rounds Sha.sched sumL taggedL GI leafL diskA
theorem RL.begOk {n : Nat} {s : Sto} {th mb : Dg → Prop} (h : RL n s th mb) (hn : n ≤ 100) : BegOk s.beg ∧ s.A.states.length ≤ 800000000 ∧ s.A.writes.length ≤ 800000000 := ⟨⟨h.bg.1, by have := h.bg.2; omega⟩, by have := h.sts; omega, by have := h.wrs; omega⟩
theorem RL.new (room : Nat) : RL 0 ⟨Ab.new room, [], false⟩ (thE []) (thE []) :=
 ⟨(LS.new room).congr (fun d => ⟨thE_nil d, fun h => h.elim⟩) (fun d => ⟨thE_nil d, fun h => h.elim⟩), ⟨fun x hx => (by cases hx), Nat.le_refl _⟩, by show 1 ≤ _; omega, by show 0 ≤ _; omega⟩
structure MidL (n : Nat) (nm : Dg) (f : Nat) (s : Sto) (e1 e2 : List (Dg × Value)) : Prop where
 tb : TB e1
 ok : f = 0 → RL n s (thE e1) (thE e2)
 no : f ≠ 0 → RL n s (thE e1) (fun d => thE e2 d ∨ d = nm)
theorem MidL.of {n : Nat} {nm : Dg} {s : Sto} {e1 e2 : List (Dg × Value)} (hT : TB e1) (h : RL n s (thE e1) (thE e2)) : MidL n nm 0 s e1 e2 := ⟨hT, fun _ => h, fun h0 => absurd rfl h0⟩
set_option maxRecDepth 20000 in
set_option maxHeartbeats 1600000 in
theorem BLasts_any (X : HP) (hK : KAt X) (v : Value) (l : List ST8) (hv : Steps8 X v l) :
  Ctr Tryz.prog 9 [v] [X] (fun r H => r = .bool true ∧ H = [X]) := by
 obtain ⟨hvw, hll, hok⟩ := hv
 have hmu := much8_any X v l hvw hll hok
 obtain ⟨a0, c0, rfl⟩ := hvw.shape
 refine Ctr.enter Tryz.func9 (by kernel_rfl) rfl Tryz.ntmps9 rfl rfl ?_
 intro G F R hE
 refine go ?_
 ((try refine go ?_); first | refine J_callE rfl rfl rfl rfl (awake_any X hK) entA ?_ (fun _ _ _ _ _ => trivial) | refine J_call0E rfl rfl rfl (awake_any X hK) entA ?_ (fun _ _ _ _ _ => trivial))
 rintro _ _ ⟨rfl, rfl⟩
 refine go ?_
 ((try refine go ?_); first | refine J_callE rfl rfl rfl rfl (hmu) entA ?_ (fun _ _ _ _ _ => trivial) | refine J_call0E rfl rfl rfl (hmu) entA ?_ (fun _ _ _ _ _ => trivial))
 rintro _ _ ⟨b, rfl, rfl, hsm⟩
 refine go ?_
 ((try refine go ?_); first | refine J_callE rfl rfl rfl rfl (New_dA 16777216 (by omega) (by omega)) entA ?_ (fun _ _ _ _ _ => trivial) | refine J_call0E rfl rfl rfl (New_dA 16777216 (by omega) (by omega)) entA ?_ (fun _ _ _ _ _ => trivial))
 rintro _ _ ⟨bd, rfl, rfl⟩
 cases b with
 | true =>
  refine go ?_
  (first | refine K_return hE Tryz.func9 rfl _ rfl ⟨rfl, rfl⟩ entA | refine K_fallEnd hE Tryz.func9 rfl _ rfl ⟨rfl, rfl⟩ entA)
 | false =>
  have hsm := hsm rfl
  refine go ?_
  ((try refine go ?_); first | refine J_callE rfl rfl rfl rfl (Open_first X hK bd 16777216 16777216 (by omega)) entA ?_ (fun _ _ _ _ _ => trivial) | refine J_call0E rfl rfl rfl (Open_first X hK bd 16777216 16777216 (by omega)) entA ?_ (fun _ _ _ _ _ => trivial))
  rintro _ _ ⟨bs0, mb0, rfl, rfl⟩
  refine go ?_
  refine J_makeMap rfl (fun _ _ _ => trivial) ?_
  intro m1
  refine J_ent (Ent.fold (B := [_]) (A := mapR dV m1 []) (fun h hs => ⟨h, sub.refl h, mapR_new dV m1 h (Sep_one hs)⟩)) ?_
  refine go ?_
  refine J_makeMap rfl (fun _ _ _ => trivial) ?_
  intro m2
  refine J_ent (Ent.fold (B := [_]) (A := mapR dV m2 []) (fun h hs => ⟨h, sub.refl h, mapR_new dV m2 h (Sep_one hs)⟩)) ?_
  refine go ?_
  refine K_loop (fun g : Nat × Sto × (Nat × Nat) × List (Dg × Value) × List (Dg × Value) => g.1 ≤ l.length ∧ g.1 ≤ 60 ∧ RL g.1 g.2.1 (thE g.2.2.2.1) (thE g.2.2.2.2) ∧ TB g.2.2.2.1) (fun g => l.length - g.1)
   (fun g => [(0, .slice a0 l.length c0), (5, ptr bd), (7, ptr g.2.2.1.1), (8, .map (some m1)), (9, .map (some m2)), (10, .int .i64 (g.1 : Int))])
   (fun g => X :: mapR dV m1 g.2.2.2.1 :: mapR dV m2 g.2.2.2.2 :: (stoL g.2.2.1.1 bd 16777216 g.2.2.1.2 g.2.1 ++ F)) (0, ⟨Ab.new 16777216, [], false⟩, (bs0, mb0), [], []) ⟨Nat.zero_le _, by omega, RL.new _, TB.nil⟩ rfl (by repeat (first | exact keep_nil | refine keep_cons rfl ?_)) entA ?_
  rintro ⟨i, s, ⟨bs, mb⟩, e1, e2⟩ ⟨hi, hi60, hr, hT⟩ ih
  simp only at hi hi60 hr hT
  dsimp only
  refine go ?_
  by_cases hend : i < l.length ∧ i < 60
  case neg =>
   by_cases h1 : i < l.length
   ·(first | refine J_slot 59 ((.bool true)) rfl ((congrArg Value.bool (decide_eq_true (by omega)))) ?_ | refine K_slot 59 ((.bool true)) rfl ((congrArg Value.bool (decide_eq_true (by omega)))) ?_)
    refine go ?_
    (first | refine J_slot 62 ((.bool false)) rfl ((congrArg Value.bool (decide_eq_false (by omega)))) ?_ | refine K_slot 62 ((.bool false)) rfl ((congrArg Value.bool (decide_eq_false (by omega)))) ?_)
    refine go ?_
    refine K_ent (H' := X :: F) entA ?_
    (first | refine K_return hE Tryz.func9 rfl _ rfl ⟨rfl, rfl⟩ entA | refine K_fallEnd hE Tryz.func9 rfl _ rfl ⟨rfl, rfl⟩ entA)
   ·(first | refine J_slot 59 ((.bool false)) rfl ((congrArg Value.bool (decide_eq_false (by omega)))) ?_ | refine K_slot 59 ((.bool false)) rfl ((congrArg Value.bool (decide_eq_false (by omega)))) ?_)
    refine go ?_
    refine K_ent (H' := X :: F) entA ?_
    (first | refine K_return hE Tryz.func9 rfl _ rfl ⟨rfl, rfl⟩ entA | refine K_fallEnd hE Tryz.func9 rfl _ rfl ⟨rfl, rfl⟩ entA)
  obtain ⟨hi1, hi2⟩ := hend
  obtain ⟨st, hx⟩ : ∃ s, l[i]? = some s := ⟨l[i], by simp⟩
  have hso := hok _ (List.mem_of_getElem? hx)
  obtain ⟨hsb, hsl⟩ := hsm i st (by omega) hx
  obtain ⟨hb1, hb2, hb3⟩ := hr.begOk (by omega)
  have hrsts := hr.sts
  have hrwrs := hr.wrs
  obtain ⟨bb, oo, cc, hsle⟩ := hvw.some (by rw [← List.length_pos_iff, chunk_len st8C_len]; omega)
  simp only [Value.slice.injEq, true_and] at hsle
  obtain ⟨rfl, rfl⟩ := hsle
  (first | refine J_slot 59 ((.bool true)) rfl ((congrArg Value.bool (decide_eq_true (by omega)))) ?_ | refine K_slot 59 ((.bool true)) rfl ((congrArg Value.bool (decide_eq_true (by omega)))) ?_)
  refine go ?_
  (first | refine J_slot 62 ((.bool true)) rfl ((congrArg Value.bool (decide_eq_true (by omega)))) ?_ | refine K_slot 62 ((.bool true)) rfl ((congrArg Value.bool (decide_eq_true (by omega)))) ?_)
  refine go ?_
  refine J_at (U := tab) i 72 rfl rfl rfl rfl rfl rfl rfl rfl hi1 ?_
  refine J_loadElem (U := tab) (es := st8C st) 0 (i * 72) rfl rfl rfl hvw rfl (st8E hx) rfl rfl rfl ?_
  refine J_alloc (U := tab) rfl rfl rfl (fun _ _ _ => trivial) ?_
  intro b11
  have hnm := refName2 X _ st.l hso.l hso.ll
  obtain ⟨nm, hnme⟩ : ∃ nm, nm = nmB st.l := ⟨_, rfl⟩
  rw [← hnme] at hnm
  unfold imV dV at hnm
  refine go ?_
  ((try refine go ?_); first | refine J_callE rfl rfl rfl rfl (hnm) entA ?_ (fun _ _ _ _ _ => trivial) | refine J_call0E rfl rfl rfl (hnm) entA ?_ (fun _ _ _ _ _ => trivial))
  rintro _ _ ⟨rfl, rfl⟩
  refine go ?_
  refine J_alloc (U := tab) rfl rfl rfl (fun _ _ _ => trivial) ?_
  intro b12
  refine go ?_
  (first | refine K_ent (H' := pts b12 (cl (dC nm) 30) :: pts b11 (cl (st8C st) 52) :: X :: mapR dV m1 e1 :: mapR dV m2 e2 :: (stoL bs bd 16777216 mb s ++ F)) entA ?_ | refine J_ent (H' := pts b12 (cl (dC nm) 30) :: pts b11 (cl (st8C st) 52) :: X :: mapR dV m1 e1 :: mapR dV m2 e2 :: (stoL bs bd 16777216 mb s ++ F)) entA ?_)
  refine K_mid 2 (fun g : Nat × Sto × (Nat × Nat) × List (Dg × Value) => MidL (i + 1) nm g.1 g.2.1 g.2.2.2 e2)
   (fun g => [(0, .slice (some ⟨bb, oo, none⟩) l.length c0), (5, ptr bd), (7, ptr g.2.2.1.1), (8, .map (some m1)), (9, .map (some m2)), (10, .int .i64 (i : Int)), (12, ptr b12), (14, .int .i64 (g.1 : Int))])
   (fun g => pts b12 (cl (dC nm) 30) :: X :: mapR dV m1 g.2.2.2 :: mapR dV m2 e2 :: (stoL g.2.2.1.1 bd 16777216 g.2.2.1.2 g.2.1 ++ F)) rfl ?_ ?_
  ·rintro ⟨f, t, ⟨bs', mb'⟩, e1'⟩ hm
   simp only at hm
   dsimp only
   (refine K_regionA rfl ?_; refine goR ?_)
   refine K_mid 1 (fun g : List (Dg × Value) => RL (i + 1) t (thE e1') (thE g))
    (fun g => [(0, .slice (some ⟨bb, oo, none⟩) l.length c0), (5, ptr bd), (7, ptr bs'), (8, .map (some m1)), (9, .map (some m2)), (10, .int .i64 (i : Int))])
    (fun g => X :: mapR dV m1 e1' :: mapR dV m2 g :: (stoL bs' bd 16777216 mb' t ++ F)) rfl ?_ ?_
   ·intro e2' hrt
    refine go ?_
    ((try refine go ?_); first | refine J_callE rfl rfl rfl rfl (Off_dA bd t.A) entA ?_ (fun _ _ _ _ _ => trivial) | refine J_call0E rfl rfl rfl (Off_dA bd t.A) entA ?_ (fun _ _ _ _ _ => trivial))
    rintro _ _ ⟨rfl, rfl⟩
    cases hoff : t.A.off with
    | true =>
     refine go ?_
     refine K_again ih (i + 1, t, (bs', mb'), e1', e2') rfl ⟨by simp only; omega, by simp only; omega, hrt, hm.tb⟩ (by simp only; omega) (by repeat (first | exact keep_nil | refine keep_cons rfl ?_)) entA
    | false =>
     have hrg := right8_any X bs' bd 16777216 mb' t.brk t.A hrt.ls.1.names.1 hoff _ l hvw hll
     obtain ⟨hi1', hi2'⟩ := hrt.images
     refine go ?_
     ((try refine go ?_); first | refine J_callE rfl rfl rfl rfl (hrg) entA ?_ (fun _ _ _ _ _ => trivial) | refine J_call0E rfl rfl rfl (hrg) entA ?_ (fun _ _ _ _ _ => trivial))
     rintro _ _ ⟨rfl, rfl⟩
     refine go ?_
     refine J_diskA (bd := bd) (A := t.A) 1 rfl ?_
     intro hdk
     have hil : (imagesF t.A).length ≤ 200 := by
      have h1 := List.length_filterMap_le (hashN kI) (namesF t.A)
      have h2 := namesF_len hdk
      unfold imagesF
      omega
     refine go ?_
     ((try refine go ?_); first | refine J_callE rfl rfl rfl rfl (Images_any bs' bd 16777216 mb' t.brk t.A) entA ?_ (fun _ _ _ _ _ => trivial) | refine J_call0E rfl rfl rfl (Images_any bs' bd 16777216 mb' t.brk t.A) entA ?_ (fun _ _ _ _ _ => trivial))
     rintro r2 _ rfl
     (first | refine J_shape 0 rfl ?_ | refine K_shape 0 rfl ?_)
     rintro a2 c2 rfl
     refine J_slcVw 0 rfl ?_
     intro hv2
     refine go ?_
     ((try refine go ?_); first | refine J_callE rfl rfl rfl rfl (between_any _ _ (imagesF t.A) hv2 (by omega) m1 m2 e1' e2' hm.tb hi1' hi2') entA ?_ (fun _ _ _ _ _ => trivial) | refine J_call0E rfl rfl rfl (between_any _ _ (imagesF t.A) hv2 (by omega) m1 m2 e1' e2' hm.tb hi1' hi2') entA ?_ (fun _ _ _ _ _ => trivial))
     rintro _ _ ⟨rfl, rfl⟩
     refine go ?_
     refine K_again ih (i + 1, t, (bs', mb'), e1', e2') rfl ⟨by simp only; omega, by simp only; omega, hrt, hm.tb⟩ (by simp only; omega) (by repeat (first | exact keep_nil | refine keep_cons rfl ?_)) entA
   ·intro tail
    by_cases hf : f = 0
    ·subst hf
     (first | refine J_slot 135 ((.bool false)) rfl ((congrArg Value.bool (decide_eq_false (by simp)))) ?_ | refine K_slot 135 ((.bool false)) rfl ((congrArg Value.bool (decide_eq_false (by simp)))) ?_)
     (refine goR ?_)
     refine K_condF rfl rfl ?_
     refine K_to tail e2 rfl (hm.ok rfl) (by repeat (first | exact keep_nil | refine keep_cons rfl ?_)) entA
    ·(first | refine J_slot 135 ((.bool true)) rfl ((congrArg Value.bool (decide_eq_true (by omega)))) ?_ | refine K_slot 135 ((.bool true)) rfl ((congrArg Value.bool (decide_eq_true (by omega)))) ?_)
     refine go ?_
     refine J_loadArr (U := tab) (l := dC nm) 0 rfl rfl rfl rfl rfl rfl ?_
     refine J_mapUpdate (U := tab) (kv := dV) (es := e2) (key := nm) (v := .bool true) 3 kDg (fun _ _ => trivial) rfl rfl rfl rfl rfl rfl rfl rfl ?_
     (refine goR ?_)
     refine K_to tail (aset e2 nm (.bool true)) rfl ((hm.no hf).congr (fun d => Iff.rfl) (fun d => thE_aset e2 nm d)) (by repeat (first | exact keep_nil | refine keep_cons rfl ?_)) entA
  ·intro tail
   have hbb := blob_any X hK bs bd 16777216 (by omega) mb s st hso (by omega) hb1 hb2 hb3
   have hcm := Commit_bl X hK _ st.l hso.l (by omega) bs bd 16777216 mb s (by omega) (by omega)
   have hdr := Drop_bl bs bd 16777216 mb s nm (by omega) (by omega)
   have hpl := Plan_dA bd s.A X _ st.b hso.b.1 (by omega)
   have hcr := Crash_dA bd s.A st.i st.n st.cut X _ st.b hso.b.1 hso.bl (by omega) (by omega) hso.i hso.n hso.cut
   unfold st8V at hbb
   unfold imV at hcm
   unfold dV at hdr
   refine K_mid 1 (fun _ : Bool => True) (fun y => [(0, .slice (some ⟨bb, oo, none⟩) l.length c0), (5, ptr bd), (7, ptr bs), (8, .map (some m1)), (9, .map (some m2)), (10, .int .i64 (i : Int)), (11, ptr b11), (12, ptr b12), (14, .int .i64 0), (77, .int .i64 st.d), (78, .bool y)])
    (fun _ => pts b12 (cl (dC nm) 30) :: pts b11 (cl (st8C st) 52) :: X :: mapR dV m1 e1 :: mapR dV m2 e2 :: (stoL bs bd 16777216 mb s ++ F)) rfl ?_ ?_
   case refine_2 =>
    clear tail
    intro tail
    refine K_condP rfl rfl ?_ ?_
    ·intro h0
     refine K_to tail (decide (st.d = 0)) rfl trivial (by repeat (first | exact keep_nil | refine keep_cons rfl ?_)) entA
    intro h0
    refine go ?_
    refine K_condP rfl rfl ?_ ?_
    ·intro h1
     refine K_to tail (decide (st.d = 1)) rfl trivial (by repeat (first | exact keep_nil | refine keep_cons rfl ?_)) entA
    intro h1
    refine go ?_
    refine K_condP rfl rfl ?_ ?_
    ·intro h2
     refine K_to tail (decide (st.d = 2)) rfl trivial (by repeat (first | exact keep_nil | refine keep_cons rfl ?_)) entA
    intro h2
    refine go ?_
    refine K_condP rfl rfl ?_ ?_
    ·intro h3
     refine K_to tail (decide (st.d = 3)) rfl trivial (by repeat (first | exact keep_nil | refine keep_cons rfl ?_)) entA
    intro h3
    (refine K_regionA rfl ?_; refine goR ?_)
    refine K_to tail (decide (st.d = 4)) rfl trivial (by repeat (first | exact keep_nil | refine keep_cons rfl ?_)) entA
   rintro y -
   cases y with
   | true =>
    refine go ?_
    refine J_loadArr (U := tab) (l := st8C st) 1 rfl rfl rfl rfl rfl rfl ?_
    ((try refine go ?_); first | refine J_callE rfl rfl rfl rfl (hbb) entA ?_ (fun _ _ _ _ _ => trivial) | refine J_call0E rfl rfl rfl (hbb) entA ?_ (fun _ _ _ _ _ => trivial))
    rintro _ _ ⟨t, rfl, rfl, hR⟩
    (refine goR ?_)
    refine K_to tail (0, t, (bs, mb), e1) rfl (MidL.of hT (hr.blob hR)) (by repeat (first | exact keep_nil | refine keep_cons rfl ?_)) entA
   | false =>
    refine go ?_
    refine K_condP rfl rfl ?_ ?_
    ·intro h5
     refine go ?_
     ((try refine go ?_); first | refine J_callE rfl rfl rfl rfl (hcm) entA ?_ (fun _ _ _ _ _ => trivial) | refine J_call0E rfl rfl rfl (hcm) entA ?_ (fun _ _ _ _ _ => trivial))
     rintro _ _ ⟨e, t, rfl, rfl, hR⟩
     obtain ⟨k1, k2⟩ := hr.commit hR
     rw [← hnme] at k1 k2
     by_cases he : e = 0
     ·subst he
      refine go ?_
      (first | refine K_ent (H' := pts b12 (cl (dC nm) 30) :: X :: mapR dV m1 e1 :: mapR dV m2 e2 :: (stoL bs bd 16777216 mb t ++ F)) entA ?_ | refine J_ent (H' := pts b12 (cl (dC nm) 30) :: X :: mapR dV m1 e1 :: mapR dV m2 e2 :: (stoL bs bd 16777216 mb t ++ F)) entA ?_)
      refine J_loadArr (U := tab) (l := dC nm) 0 rfl rfl rfl rfl rfl rfl ?_
      refine J_mapUpdate (U := tab) (kv := dV) (es := e1) (key := nm) (v := .bool true) 2 kDg (fun _ _ => trivial) rfl rfl rfl rfl rfl rfl rfl rfl ?_
      (refine goR ?_)
      refine K_to tail (0, t, (bs, mb), aset e1 nm (.bool true)) rfl ⟨hT.aset nm, fun _ => (k1 rfl).congr (fun d => thE_aset e1 nm d) (fun d => Iff.rfl), fun h => absurd rfl h⟩ (by repeat (first | exact keep_nil | refine keep_cons rfl ?_)) entA
     ·(refine goR ?_)
      (refine K_regionA rfl ?_; refine goR ?_)
      (first | refine J_slot 95 ((.bool false)) rfl ((congrArg Value.bool (decide_eq_false (by omega)))) ?_ | refine K_slot 95 ((.bool false)) rfl ((congrArg Value.bool (decide_eq_false (by omega)))) ?_)
      refine K_condF rfl rfl ?_
      refine K_to tail (e, t, (bs, mb), e1) rfl ⟨hT, fun h => absurd h he, k2⟩ (by repeat (first | exact keep_nil | refine keep_cons rfl ?_)) entA
    intro h5
    refine go ?_
    refine K_condP rfl rfl ?_ ?_
    ·intro h6
     refine go ?_
     refine J_loadArr (U := tab) (l := dC nm) 0 rfl rfl rfl rfl rfl rfl ?_
     ((try refine go ?_); first | refine J_callE rfl rfl rfl rfl (hdr) entA ?_ (fun _ _ _ _ _ => trivial) | refine J_call0E rfl rfl rfl (hdr) entA ?_ (fun _ _ _ _ _ => trivial))
     rintro _ _ ⟨e, t, rfl, rfl, hR⟩
     obtain ⟨k1, k2⟩ := hr.drop hR
     refine go ?_
     (first | refine K_ent (H' := pts b12 (cl (dC nm) 30) :: X :: mapR dV m1 e1 :: mapR dV m2 e2 :: (stoL bs bd 16777216 mb t ++ F)) entA ?_ | refine J_ent (H' := pts b12 (cl (dC nm) 30) :: X :: mapR dV m1 e1 :: mapR dV m2 e2 :: (stoL bs bd 16777216 mb t ++ F)) entA ?_)
     refine J_loadArr (U := tab) (l := dC nm) 0 rfl rfl rfl rfl rfl rfl ?_
     refine J_delete (U := tab) (kv := dV) (es := e1) (key := nm) 2 kDg (fun _ _ => trivial) rfl rfl rfl rfl rfl rfl rfl ?_
     (refine goR ?_)
     refine K_to tail (e, t, (bs, mb), adel e1 nm) rfl ⟨hT.adel nm, fun h => (k1 h).congr (fun d => thE_adel e1 nm d) (fun d => Iff.rfl), fun h => (k2 h).congr (fun d => thE_adel e1 nm d) (fun d => Iff.rfl)⟩ (by repeat (first | exact keep_nil | refine keep_cons rfl ?_)) entA
    intro h6
    refine go ?_
    refine K_condP rfl rfl ?_ ?_
    ·intro h7
     refine go ?_
     ((try refine go ?_); first | refine J_callE rfl rfl rfl rfl (hpl) entA ?_ (fun _ _ _ _ _ => trivial) | refine J_call0E rfl rfl rfl (hpl) entA ?_ (fun _ _ _ _ _ => trivial))
     rintro _ _ ⟨rfl, rfl⟩
     (refine goR ?_)
     refine K_to tail (0, ⟨{ s.A with plan := st.b }, s.beg, s.brk⟩, (bs, mb), e1) rfl (MidL.of hT (hr.plan st.b)) (by repeat (first | exact keep_nil | refine keep_cons rfl ?_)) entA
    intro h7
    refine go ?_
    refine K_condP rfl rfl ?_ ?_
    ·intro h8
     refine go ?_
     ((try refine go ?_); first | refine J_callE rfl rfl rfl rfl (hcr) entA ?_ (fun _ _ _ _ _ => trivial) | refine J_call0E rfl rfl rfl (hcr) entA ?_ (fun _ _ _ _ _ => trivial))
     rintro _ _ rfl
     refine J_diskA (bd := bd) (A := s.A.crash st.i st.b st.n st.cut) 0 rfl ?_
     intro hdk
     refine go ?_
     ((try refine go ?_); first | refine J_callE rfl rfl rfl rfl (Open_any' X hK bd 16777216 (s.A.crash st.i st.b st.n st.cut) (by show 1 ≤ _; omega)) entA ?_ (fun _ _ _ _ _ => trivial) | refine J_call0E rfl rfl rfl (Open_any' X hK bd 16777216 (s.A.crash st.i st.b st.n st.cut) (by show 1 ≤ _; omega)) entA ?_ (fun _ _ _ _ _ => trivial))
     rintro _ _ (⟨h, _⟩ | ⟨_, h, _⟩ | ⟨_, _, e, B, hop, hcc⟩)
     ·exfalso; omega
     ·cases h
     obtain ⟨rfl, hrn⟩ := hr.crash st.i st.b st.n st.cut hdk hop
     rcases hcc with ⟨hne, _⟩ | ⟨_, _, bs2, mb2, rfl, rfl⟩
     ·exact absurd rfl hne
     (refine goR ?_)
     (refine K_regionA rfl ?_; refine goR ?_)
     refine K_condF rfl rfl ?_
     refine K_to tail (0, ⟨B, [], false⟩, (bs2, mb2), e1) rfl (MidL.of hT hrn) (by repeat (first | exact keep_nil | refine keep_cons rfl ?_)) entA
    intro h8
    refine K_to tail (0, s, (bs, mb), e1) rfl (MidL.of hT hr.mono) (by repeat (first | exact keep_nil | refine keep_cons rfl ?_)) entA
end Go.Proofs.YtpecmnaikjbanaaGreatDoor
/- blobs: the variable that the rows lay: what its cells are. -/
set_option linter.unnecessarySimpa false
namespace Go.Proofs.YtpecmnaikjbanaaGreatDoor
open Go Go.SL
theorem arr_cells {P : Program} {H : Type} {enc : TypeId × Value → H} {W : World} {base : Nat} {spare : Nat → Bool} {held : Bool} {fuel n : Nat} {t e : TypeId} {k : IntKind} {l : List Value} {x : DataW H × List MemPlace} (ht : P.underlying t = some (.array n e)) (he : P.underlying e = some (.int k)) (hc : P.cellsOf e = 1) (hct : P.cellsOf t = n)
  (h : DataW.trod enc P W base spare held fuel t l = some x) (ns : List Int) (hx : x.1 = .agg (ns.map fun z => .lit (.int k z))) : l = ns.map (Value.int k) := by
 obtain ⟨xs, m, _, hxe, hlen, hxl, hf⟩ := DataW.trod_array ht h
 rw [hct] at hlen
 rw [hxe] at hx
 simp only [DataW.agg.injEq] at hx
 apply List.ext_getElem?
 intro i
 rcases Nat.lt_or_ge i n with hi | hi
 ·have h1 := hf i hi
  obtain ⟨y, hy⟩ : ∃ y, xs[i]? = some y := ⟨xs[i]'(by rw [hxl]; exact hi), by simp⟩
  rw [hy, hc, Nat.mul_one] at h1
  obtain ⟨z, r, hz, w⟩ := DataW.trod_int he h1
  have h2 := congrArg (fun l : List Value => l[0]?) r
  have h3 : l[i]? = some (.int k z) := by simpa using h2
  have h4 := congrArg (fun l => l[i]?) hx
  simp only [List.getElem?_map, hy, Option.map_some, hz] at h4
  rw [h3, List.getElem?_map]
  cases hn : ns[i]? with
  | none => rw [hn] at h4; cases h4
  | some z2 =>
   rw [hn] at h4
   simp only [Option.map_some, Option.some.injEq, DataW.lit.injEq, Lit.int.injEq] at h4
   rw [h4.2]
   rfl
 ·have hnl : ns.length = n := by have := congrArg List.length hx; simpa [hxl] using this.symm
  rw [List.getElem?_eq_none (by omega), List.getElem?_eq_none (by simp; omega)]
def ksI : List Int := Sha.ks.map fun w => (w.toNat : Int)
theorem wV_ks : wV Sha.ks = ksI.map (Value.int .u32) := by unfold wV ksI; rw [List.map_map]; rfl
theorem ksI_eq : Rows.laid_starling_digest_constants (H := Unit) = .agg (ksI.map fun z => .lit (.int .u32 z)) := by
 unfold Rows.laid_starling_digest_constants ksI Sha.ks
 simp only [List.map_cons, List.map_nil, BitVec.toNat_ofNat]
 rfl
theorem ks_global : Tryz.prog.globalNamed "starling/digest.constants" = some 0 := by kernel_rfl
theorem ks_type : (Tryz.prog.globals[0]?).map (·.type) = some 161 := by kernel_rfl
theorem ks_cells : Tryz.prog.cellsOf 161 = 64 := by kernel_rfl
theorem u32_cells : Tryz.prog.cellsOf 129 = 1 := by kernel_rfl
theorem cells_of_laid {W : World} (h : laidMet Tryz.prog [("starling/digest.constants", Rows.laid_starling_digest_constants)] W) : W.var? Tryz.prog "starling/digest.constants" = some (wV Sha.ks).toArray := by
 obtain ⟨ps, ⟨g, t, cs, fuel, p, q, hg, ht, hvar, hd, _, _⟩, _⟩ := h
 obtain rfl := Option.some.inj (ks_global.symm.trans hg)
 obtain rfl := Option.some.inj (ks_type.symm.trans ht)
 rw [hvar, wV_ks]
 congr 1
 have := arr_cells Tryz.underlying161 Tryz.underlying129 u32_cells ks_cells hd ksI ksI_eq
 rw [← this]
theorem KAt_of_laid {W : World} (h : laidMet Tryz.prog [("starling/digest.constants", Rows.laid_starling_digest_constants)] W) : KAt (old W) := by
 have hv := cells_of_laid h
 refine ⟨some ⟨0, 0, none⟩, 64, rfl, .inr ⟨_, 0, rfl, fun hp ho j c hj => ?_⟩⟩
 rw [Nat.zero_add]
 refine hcell_of_cell ho ?_
 rw [World.var?_cell ks_global hv j]
 simpa using hj
noncomputable def laidWorld (os : Os) : World :=
  { World.holding Tryz.prog os ⟨#[], #[], []⟩ with heap := (World.holding Tryz.prog os ⟨#[], #[], []⟩).heap.modify 0 fun
      | .cells _ t frozen => .cells (ksI.map (Value.int .u32)).toArray t frozen
      | o => o }
theorem laidWorld_row (os : Os) (args : Array Value) : ((laidWorld os).forCall (fun _ _ => 0) ⟨#[], args, []⟩).memory.heap[0]? = some (.cells (ksI.map (Value.int .u32)).toArray 161 (0, 0)) := by kernel_rfl
set_option maxRecDepth 20000 in
theorem laidWorld_met (os : Os) (args : Array Value) : laidMet Tryz.prog [("starling/digest.constants", Rows.laid_starling_digest_constants)] ((laidWorld os).forCall (fun _ _ => 0) ⟨#[], args, []⟩).memory := by
 have hrow := laidWorld_row os args
 refine ⟨_, ⟨0, 161, (ksI.map (Value.int .u32)).toArray, 8, [], [], ks_global, ks_type, ?_, ?_, rfl, rfl⟩, ?_, ?_⟩
 ·unfold World.var?
  rw [ks_global]
  simp only [Option.bind_some, hrow]
 ·kernel_rfl
 ·rw [List.append_nil, List.append_nil]
  unfold MemPlace.row
  refine List.Pairwise.map (R := fun a b => a ≠ b) _ (fun i j hij e => hij ?_) List.nodup_range
  exact Nat.add_left_cancel (MemPlace.cell.inj e).2
 ·intro b off h
  have hb : b = 0 := by
   simp only [List.append_nil, MemPlace.row, List.mem_map] at h
   obtain ⟨i, _, hi⟩ := h
   simp [MemPlace.cell.injEq] at hi
   exact hi.1.symm
  subst hb
  refine ⟨⟨_, _, hrow⟩, fun u v hc => ?_⟩
  simp only [World.cell?, hrow] at hc
  exfalso
  have h2 : ∀ x ∈ ksI.map (Value.int .u32), ∀ u v, x ≠ .iface u v := by
   intro x hx u v
   obtain ⟨z, _, rfl⟩ := List.mem_map.1 hx
   simp
  have h3 : (ksI.map (Value.int .u32))[off]? = some (.iface u v) := by simpa using hc
  exact h2 _ (List.mem_of_getElem? h3) u v rfl
end Go.Proofs.YtpecmnaikjbanaaGreatDoor
