/- Texts of one claim, joined: Vn, Vo, Vp, Vq, Ve, By0, Bm, Bn, Bo, Vf, Vg, Vt0. -/
import Derived.Test.YtpecmnaikjbanaaGreatDoorQBW8
import Derived.Test.YtpecmnaikjbanaaGreatDoorQBW9
import Derived.Test.YtpecmnaikjbanaaGreatDoorQBW11
import Derived.Test.YtpecmnaikjbanaaGreatDoorQBW12
/- blobs, plain: what any crash leaves right: kept by each step. -/
set_option linter.unusedVariables false
set_option linter.unusedSimpArgs false
namespace Go.Proofs.YtpecmnaikjbanaaGreatDoor
open Go Go.SL
structure Good (A : Ab) (st : Nms) : Prop where
 b : ∀ d f, Ab.lookIn st (fBd d) = some f → Cl A f ∧ sumL (A.now f) = d
 i : ∀ d f, Ab.lookIn st (fI d) = some f → Cl A f ∧ ∃ l, decB (A.now f) = some l ∧ nameB l = d ∧ ∀ y ∈ l, (Ab.lookIn st (fBd y.d)).isSome = true
def Inj (st : Nms) : Prop := ∀ a b f, Ab.lookIn st a = some f → Ab.lookIn st b = some f → a = b
structure LG (A : Ab) : Prop where
 good : ∀ st ∈ A.states, Good A st
 inj : ∀ st ∈ A.states, Inj st
 mem : A.names ∈ A.states
 known : ∀ st ∈ A.states, ∀ nm f, Ab.lookIn st nm = some f → f ∈ A.fs.map (·.1)
 knownW : ∀ w ∈ A.writes, w.1 ∈ A.fs.map (·.1)
structure LQ (A : Ab) : Prop where
 same : ∀ st ∈ A.states, ∀ d, Ab.lookIn st (fBd d) = A.look (fBd d) ∧ Ab.lookIn st (fI d) = A.look (fI d)
 noN : ∀ d, A.look (fN d) = none
structure LH (A : Ab) (th mb : Dg → Prop) : Prop where
 lg : LG A
 ths : ∀ d, th d → ∀ st ∈ A.states, (Ab.lookIn st (fI d)).isSome = true
 im : ∀ st ∈ A.states, ∀ d, (Ab.lookIn st (fI d)).isSome = true → th d ∨ mb d
theorem LH.weak {A : Ab} {th mb th' mb' : Dg → Prop} (h : LH A th mb) (h1 : ∀ d, th' d → th d) (h2 : ∀ d, th d ∨ mb d → th' d ∨ mb' d) : LH A th' mb' := ⟨h.lg, fun d hd => h.ths d (h1 d hd), fun st hst d hd => h2 d (h.im st hst d hd)⟩
theorem now_file {A B : Ab} {f : Nat} (h : B.file f = A.file f) : B.now f = A.now f := by unfold Ab.now; rw [h]
theorem Good.keep {A B : Ab} {st : Nms} (h : Good A st) (hk : ∀ nm f, Ab.lookIn st nm = some f → (∃ d, nm = fBd d ∨ nm = fI d) → (B.now f = A.now f ∧ (Cl A f → Cl B f))) : Good B st := by
 refine ⟨fun d f hf => ?_, fun d f hf => ?_⟩
 ·obtain ⟨h1, h2⟩ := hk _ _ hf ⟨d, .inl rfl⟩
  obtain ⟨h3, h4⟩ := h.b d f hf
  exact ⟨h2 h3, by rw [h1]; exact h4⟩
 ·obtain ⟨h1, h2⟩ := hk _ _ hf ⟨d, .inr rfl⟩
  obtain ⟨h3, h4⟩ := h.i d f hf
  exact ⟨h2 h3, by rw [h1]; exact h4⟩
theorem Cl.same {A B : Ab} {f : Nat} (h : Cl A f) (h1 : B.file f = A.file f) (h2 : B.writes = A.writes) : Cl B f := ⟨by rw [h1]; exact h.1, by rw [h2]; exact h.2⟩
theorem LG.of_same {A B : Ab} (h : LG A) (hf : B.fs = A.fs) (hw : B.writes = A.writes) (hs : ∀ st ∈ B.states, st ∈ A.states ∨ (Good A st ∧ Inj st ∧ ∀ nm f, Ab.lookIn st nm = some f → f ∈ A.fs.map (·.1))) (hm : B.names ∈ B.states) : LG B := by
 have hg : ∀ st, Good A st → Good B st := fun st hg => hg.keep fun nm f _ _ => ⟨now_file (file_eq hf f), fun hc => hc.same (file_eq hf f) hw⟩
 refine ⟨fun st hst => ?_, fun st hst => ?_, hm, fun st hst => ?_, by rw [hf, hw]; exact h.knownW⟩
 ·rcases hs st hst with h1 | ⟨h1, _⟩
  ·exact hg st (h.good st h1)
  ·exact hg st h1
 ·rcases hs st hst with h1 | ⟨_, h1, _⟩
  ·exact h.inj st h1
  ·exact h1
 ·rw [hf]
  rcases hs st hst with h1 | ⟨_, _, h1⟩
  ·exact h.known st h1
  ·exact h1
theorem LH.eqv {A B : Ab} {th mb : Dg → Prop} (h : LH A th mb) (e : Eqv A B) : LH B th mb :=
 ⟨h.lg.of_same e.fs e.writes (fun st hst => .inl (by rw [e.states] at hst; exact hst)) (by rw [e.names, e.states]; exact h.lg.mem), by rw [e.states]; exact h.ths, by rw [e.states]; exact h.im⟩
theorem LQ.eqv {A B : Ab} (h : LQ A) (e : Eqv A B) : LQ B := by
 have hl : ∀ nm, B.look nm = A.look nm := fun nm => by unfold Ab.look; rw [e.names]
 exact ⟨fun st hst d => by rw [hl, hl]; exact h.same st (by rw [e.states] at hst; exact hst) d, fun d => by rw [hl]; exact h.noN d⟩
theorem LH.names {A : Ab} {th mb : Dg → Prop} (h : LH A th mb) : Good A A.names ∧ Inj A.names ∧ ∀ nm f, A.look nm = some f → f ∈ A.fs.map (·.1) := ⟨h.lg.good _ h.lg.mem, h.lg.inj _ h.lg.mem, h.lg.known _ h.lg.mem⟩
theorem LH.syncNames {A B : Ab} {th mb : Dg → Prop} {e : Nat} (h : LH A th mb) (hs : stSyncNames A e B) : LH B th mb ∧ (e = 0 → B.states = [A.names] ∧ B.names = A.names ∧ B.fs = A.fs ∧ B.writes = A.writes) := by
 rcases syncNames_cases hs with ⟨h0, hq⟩ | ⟨h0, h1, h2, h3, h4⟩
 ·exact ⟨h.eqv hq, fun h => absurd h h0⟩
 ·refine ⟨⟨h.lg.of_same h3 h4 (fun st hst => .inl (by rw [h2, List.mem_singleton] at hst; rw [hst]; exact h.lg.mem)) (by rw [h1, h2]; exact List.mem_singleton.2 rfl), fun d hd st hst => ?_, fun st hst d => ?_⟩, fun _ => ⟨h2, h1, h3, h4⟩⟩
  ·rw [h2, List.mem_singleton] at hst
   rw [hst]; exact h.ths d hd _ h.lg.mem
  ·rw [h2, List.mem_singleton] at hst
   rw [hst]; exact h.im _ h.lg.mem d
theorem LQ.one {A : Ab} (h : A.states = [A.names]) (hn : ∀ d, A.look (fN d) = none) : LQ A := ⟨fun st hst d => by rw [h, List.mem_singleton] at hst; rw [hst]; exact ⟨rfl, rfl⟩, hn⟩
theorem LH.chg {A B : Ab} {th mb th' mb' : Dg → Prop} {nm : Nms} (h : LH A th mb) (hn : B.names = nm) (hs : B.states = A.states ++ [nm]) (hf : B.fs = A.fs) (hw : B.writes = A.writes) (hg : Good A nm) (hi : Inj nm) (hk : ∀ a f, Ab.lookIn nm a = some f → f ∈ A.fs.map (·.1))
  (hth : ∀ d, th' d → th d ∧ (Ab.lookIn nm (fI d)).isSome = true) (him : ∀ d, th d ∨ mb d → th' d ∨ mb' d) (him2 : ∀ d, (Ab.lookIn nm (fI d)).isSome = true → th' d ∨ mb' d) : LH B th' mb' := by
 refine ⟨h.lg.of_same hf hw (fun st hst => ?_) (by rw [hn, hs]; simp), fun d hd st hst => ?_, fun st hst d hd => ?_⟩
 ·rw [hs] at hst
  rcases List.mem_append.1 hst with h1 | h1
  ·exact .inl h1
  ·rw [List.mem_singleton.1 h1]; exact .inr ⟨hg, hi, hk⟩
 ·rw [hs] at hst
  rcases List.mem_append.1 hst with h1 | h1
  ·exact h.ths d (hth d hd).1 st h1
  ·rw [List.mem_singleton.1 h1]; exact (hth d hd).2
 ·rw [hs] at hst
  rcases List.mem_append.1 hst with h1 | h1
  ·exact him d (h.im st h1 d hd)
  ·rw [List.mem_singleton.1 h1] at hd; exact him2 d hd
/-! ## Create -/
theorem LH.create {A B : Ab} {th mb : Dg → Prop} {e : Nat} {k : ByteArray} (h : LH A th mb) (hB : ∀ d, k ≠ fBd d) (hI : ∀ d, k ≠ fI d) (hs : stCreate k A e B) :
  LH B th mb ∧ (e = 0 → A.look k = none ∧ (∀ nm, nm ≠ k → B.look nm = A.look nm) ∧ (B.look k).isSome = true ∧ (∀ nm f, nm ≠ k → A.look nm = some f → B.file f = A.file f) ∧ ∀ f, B.look k = some f → B.now f = [] ∧ ∀ st ∈ B.states, ∀ nm, nm ≠ k → Ab.lookIn st nm ≠ some f) := by
 rcases create_cases hs with ⟨h0, hq⟩ | ⟨h0, hk, f, hf, h1, h2, h3, h4⟩
 ·exact ⟨h.eqv hq, fun h => absurd h h0⟩
 ·have hfile : ∀ g, g ∈ A.fs.map (·.1) → B.file g = A.file g := fun g hg => by
   rw [file_new h3, if_neg (fun e => hf (by rw [e]; exact hg))]
  have hlk : ∀ nm, Ab.lookIn (A.names ++ [(k, f)]) nm = if nm = k then some f else A.look nm := fun nm => by
   rw [lookIn_app]
   by_cases hn : nm = k
   ·subst hn
    have : Ab.lookIn A.names nm = none := hk
    rw [this, if_pos rfl, if_pos rfl]; rfl
   ·rw [if_neg hn, if_neg hn]
    show (A.look nm).or none = _
    cases A.look nm <;> rfl
  have hgood : ∀ st ∈ A.states, Good B st := fun st hst => (h.lg.good st hst).keep fun nm g hg _ => by
   have h5 := hfile g (h.lg.known st hst nm g hg)
   exact ⟨now_file h5, fun hc => hc.same h5 h4⟩
  obtain ⟨n1, n2, n3⟩ := h.names
  have hnB := hgood _ h.lg.mem
  refine ⟨⟨⟨fun st hst => ?_, fun st hst => ?_, by rw [h1, h2]; simp, fun st hst => ?_, ?_⟩, fun d hd st hst => ?_, fun st hst d hd => ?_⟩, fun _ => ⟨hk, fun nm hn => ?_, ?_, fun nm g hn hg => hfile g (n3 nm g hg), fun g hg => ?_⟩⟩
  ·rw [h2] at hst
   rcases List.mem_append.1 hst with h5 | h5
   ·exact hgood st h5
   ·rw [List.mem_singleton.1 h5]
    refine ⟨fun d g hg => ?_, fun d g hg => ?_⟩
    ·rw [hlk, if_neg (fun e => hB d e.symm)] at hg
     exact hnB.b d g hg
    ·rw [hlk, if_neg (fun e => hI d e.symm)] at hg
     obtain ⟨h6, l, h7, h8, h9⟩ := hnB.i d g hg
     exact ⟨h6, l, h7, h8, fun y hy => by rw [hlk, if_neg (fun e => hB _ e.symm)]; exact h9 y hy⟩
  ·rw [h2] at hst
   rcases List.mem_append.1 hst with h5 | h5
   ·exact h.lg.inj st h5
   ·rw [List.mem_singleton.1 h5]
    intro a b g ha hb
    rw [hlk] at ha hb
    split at ha
    ·split at hb
     ·rename_i e1 e2; rw [e1, e2]
     ·injection ha with ha; subst ha; exact absurd (n3 _ _ hb) hf
    ·split at hb
     ·injection hb with hb; subst hb; exact absurd (n3 _ _ ha) hf
     ·exact n2 a b g ha hb
  ·rw [ids_new h3]
   rw [h2] at hst
   rcases List.mem_append.1 hst with h5 | h5
   ·exact fun nm g hg => List.mem_cons_of_mem _ (h.lg.known st h5 nm g hg)
   ·rw [List.mem_singleton.1 h5]
    intro nm g hg
    rw [hlk] at hg
    split at hg
    ·injection hg with hg; subst hg; exact List.mem_cons_self ..
    ·exact List.mem_cons_of_mem _ (n3 nm g hg)
  ·rw [ids_new h3, h4]
   exact fun w hw => List.mem_cons_of_mem _ (h.lg.knownW w hw)
  ·rw [h2] at hst
   rcases List.mem_append.1 hst with h5 | h5
   ·exact h.ths d hd st h5
   ·rw [List.mem_singleton.1 h5, hlk, if_neg (fun e => hI d e.symm)]
    exact h.ths d hd _ h.lg.mem
  ·rw [h2] at hst
   rcases List.mem_append.1 hst with h5 | h5
   ·exact h.im st h5 d hd
   ·rw [List.mem_singleton.1 h5, hlk, if_neg (fun e => hI d e.symm)] at hd
    exact h.im _ h.lg.mem d hd
  ·show Ab.lookIn B.names nm = _
   rw [h1, hlk, if_neg hn]
  ·show (Ab.lookIn B.names k).isSome = true
   rw [h1, hlk, if_pos rfl]; rfl
  ·have hg2 : Ab.lookIn B.names k = some g := hg
   rw [h1, hlk, if_pos rfl] at hg2
   injection hg2 with hg2
   subst hg2
   refine ⟨by unfold Ab.now; rw [file_new h3, if_pos rfl], fun st hst nm hn hx => ?_⟩
   rw [h2] at hst
   rcases List.mem_append.1 hst with h5 | h5
   ·exact hf (h.lg.known st h5 nm f hx)
   ·rw [List.mem_singleton.1 h5, hlk, if_neg hn] at hx
    exact hf (n3 nm f hx)
/-! ## Write, Sync -/
theorem LH.write {A B : Ab} {th mb : Dg → Prop} {e : Nat} {k : ByteArray} {at_ : Nat} {b : List UInt8} (h : LH A th mb) (hp : ∀ f, A.look k = some f → ∀ st ∈ A.states, ∀ d, Ab.lookIn st (fBd d) ≠ some f ∧ Ab.lookIn st (fI d) ≠ some f) (hs : stWrite k at_ b A e B) :
  LH B th mb ∧ B.names = A.names ∧ B.states = A.states ∧ (e = 0 → ∃ f, A.look k = some f ∧ B.now f = wroteL (A.now f) at_ b) ∧ (∀ nm f, A.look nm = some f → nm ≠ k → B.file f = A.file f ∧ (Cl A f → Cl B f)) := by
 obtain ⟨n1, n2, n3⟩ := h.names
 rcases write_cases hs with ⟨h0, hq⟩ | ⟨h0, f, hf, h1, h2, h3, h4⟩
 ·exact ⟨h.eqv hq, hq.names, hq.states, fun h => absurd h h0, fun nm f _ _ => ⟨file_eq hq.fs f, fun hc => hc.same (file_eq hq.fs f) hq.writes⟩⟩
 ·have hfile : ∀ g, g ∈ A.fs.map (·.1) → g ≠ f → B.file g = A.file g ∧ (Cl A g → Cl B g) := fun g hg hne => by
   have h5 : B.file g = A.file g := by rw [file_upd h3 hg, if_neg hne]
   refine ⟨h5, fun hc => ⟨by rw [h5]; exact hc.1, fun w hw => ?_⟩⟩
   rw [h4] at hw
   rcases List.mem_append.1 hw with h6 | h6
   ·exact hc.2 w h6
   ·rw [List.mem_singleton.1 h6]; exact fun e => hne e.symm
  refine ⟨⟨⟨fun st hst => ?_, by rw [h2]; exact h.lg.inj, by rw [h1, h2]; exact h.lg.mem, by rw [h2, ids_upd h3]; exact h.lg.known, ?_⟩, by rw [h2]; exact h.ths, by rw [h2]; exact h.im⟩, h1, h2, fun _ => ⟨f, hf, ?_⟩, fun nm g hg hne => ?_⟩
  ·rw [h2] at hst
   refine (h.lg.good st hst).keep fun nm g hg hd => ?_
   have hne : g ≠ f := fun e => by
    subst e
    obtain ⟨d, rfl | rfl⟩ := hd
    ·exact (hp _ hf st hst d).1 hg
    ·exact (hp _ hf st hst d).2 hg
   obtain ⟨h5, h6⟩ := hfile g (h.lg.known st hst nm g hg) hne
   exact ⟨now_file h5, h6⟩
  ·rw [ids_upd h3, h4]
   intro w hw
   rcases List.mem_append.1 hw with h6 | h6
   ·exact h.lg.knownW w h6
   ·rw [List.mem_singleton.1 h6]; exact n3 k f hf
  ·show (B.file f).1 = _
   rw [file_upd h3 (n3 k f hf), if_pos rfl]
  ·exact hfile g (n3 nm g hg) (fun e => hne (by subst e; exact n2 _ _ _ hg hf))
theorem LH.sync {A B : Ab} {th mb : Dg → Prop} {e : Nat} {k : ByteArray} (h : LH A th mb) (hs : stSync k A e B) :
  LH B th mb ∧ B.names = A.names ∧ B.states = A.states ∧ (∀ nm f, A.look nm = some f → B.now f = A.now f ∧ (Cl A f → Cl B f)) ∧ (e = 0 → ∀ f, A.look k = some f → Cl B f) := by
 obtain ⟨n1, n2, n3⟩ := h.names
 rcases sync_cases hs with ⟨h0, hq⟩ | ⟨h0, f, hf, h1, h2, h3, h4⟩
 ·exact ⟨h.eqv hq, hq.names, hq.states, fun nm f _ => ⟨now_file (file_eq hq.fs f), fun hc => hc.same (file_eq hq.fs f) hq.writes⟩, fun h => absurd h h0⟩
 ·have hfile : ∀ g, g ∈ A.fs.map (·.1) → B.now g = A.now g ∧ (Cl A g → Cl B g) := fun g hg => by
   have h5 := file_updS h3 hg
   refine ⟨?_, fun hc => ⟨?_, fun w hw => ?_⟩⟩
   ·unfold Ab.now
    rw [h5]
    split <;> rfl
   ·rw [h5]
    split
    ·rfl
    ·exact hc.1
   ·rw [h4] at hw
    exact hc.2 w (List.mem_filter.1 hw).1
  refine ⟨⟨⟨fun st hst => ?_, by rw [h2]; exact h.lg.inj, by rw [h1, h2]; exact h.lg.mem, by rw [h2, ids_updS h3]; exact h.lg.known, ?_⟩, by rw [h2]; exact h.ths, by rw [h2]; exact h.im⟩, h1, h2, fun nm g hg => hfile g (n3 nm g hg), fun _ g hg => ?_⟩
  ·rw [h2] at hst
   exact (h.lg.good st hst).keep fun nm g hg _ => hfile g (h.lg.known st hst nm g hg)
  ·rw [ids_updS h3, h4]
   exact fun w hw => h.lg.knownW w (List.mem_filter.1 hw).1
  ·rw [hf] at hg
   injection hg with hg
   subst hg
   refine ⟨by rw [file_updS h3 (n3 k f hf), if_pos rfl], fun w hw => ?_⟩
   rw [h4] at hw
   simpa using (List.mem_filter.1 hw).2
/-! ## Remove -/
theorem Inj.del {st : Nms} (h : Inj st) (k : ByteArray) : Inj (Ab.delN st k) := fun a b f ha hb => by
 rw [look_del] at ha hb
 split at ha
 ·cases ha
 ·split at hb
  ·cases hb
  ·exact h a b f ha hb
theorem LH.remove {A B : Ab} {th mb th' mb' : Dg → Prop} {e : Nat} {k : ByteArray} (h : LH A th mb) (hB : ∀ y : Bl, k = fBd y.d → ∀ d f l, A.look (fI d) = some f → decB (A.now f) = some l → ∀ z ∈ l, z.d ≠ y.d)
  (hth : ∀ d, th' d → th d ∧ fI d ≠ k) (him : ∀ d, th d ∨ mb d → th' d ∨ mb' d) (hs : stRemove k A e B) :
  LH B th' mb' ∧ (e ≠ 0 → Eqv A B) ∧ (e = 0 → B.names = Ab.delN A.names k ∧ B.states = A.states ++ [Ab.delN A.names k] ∧ B.fs = A.fs ∧ B.writes = A.writes ∧ B.off = false) := by
 obtain ⟨n1, n2, n3⟩ := h.names
 rcases remove_cases hs with ⟨h0, hq⟩ | ⟨h0, hk, h1, h2, h3, h4, h9⟩
 ·exact ⟨(h.eqv hq).weak (fun d hd => (hth d hd).1) him, fun _ => hq, fun h => absurd h h0⟩
 ·have hlk : ∀ nm, Ab.lookIn (Ab.delN A.names k) nm = if nm = k then none else A.look nm := fun nm => look_del A.names k nm
  refine ⟨h.chg h1 h2 h3 h4 ⟨fun d f hf => ?_, fun d f hf => ?_⟩ (n2.del k) (fun a f ha => ?_) (fun d hd => ?_) him (fun d hd => ?_), fun h => absurd h0 h, fun _ => ⟨h1, h2, h3, h4, h9⟩⟩
  ·rw [hlk] at hf
   split at hf
   ·cases hf
   ·exact n1.b d f hf
  ·rw [hlk] at hf
   split at hf
   ·cases hf
   ·obtain ⟨h5, l, h6, h7, h8⟩ := n1.i d f hf
    refine ⟨h5, l, h6, h7, fun y hy => ?_⟩
    rw [hlk, if_neg (fun e => hB y e.symm d f l hf h6 y hy rfl)]
    exact h8 y hy
  ·rw [hlk] at ha
   split at ha
   ·cases ha
   ·exact n3 a f ha
  ·rw [hlk, if_neg (hth d hd).2]
   exact ⟨(hth d hd).1, h.ths d (hth d hd).1 _ h.lg.mem⟩
  ·rw [hlk] at hd
   split at hd
   ·cases hd
   ·exact him d (h.im _ h.lg.mem d hd)
/-! ## Rename -/
theorem Inj.move {st : Nms} (h : Inj st) {o n : ByteArray} {f : Nat} (ho : Ab.lookIn st o = some f) : Inj (Ab.setN (Ab.delN st o) n f) := fun a b g ha hb => by
 have key : ∀ c, Ab.lookIn (Ab.setN (Ab.delN st o) n f) c = some g → (c = n ∧ g = f) ∨ (c ≠ n ∧ c ≠ o ∧ Ab.lookIn st c = some g) := fun c hc => by
  rw [lookIn_set, look_del] at hc
  split at hc
  ·rename_i e; injection hc with hc; exact .inl ⟨e, hc.symm⟩
  ·split at hc
   ·cases hc
   ·rename_i e1 e2; exact .inr ⟨e1, e2, hc⟩
 rcases key a ha with ⟨e1, e2⟩ | ⟨e1, e2, e3⟩
 ·rcases key b hb with ⟨e4, e5⟩ | ⟨e4, e5, e6⟩
  ·rw [e1, e4]
  ·rw [e2] at e6; exact absurd (h _ _ _ e6 ho) e5
 ·rcases key b hb with ⟨e4, e5⟩ | ⟨e4, e5, e6⟩
  ·rw [e5] at e3; exact absurd (h _ _ _ e3 ho) e2
  ·exact h a b g e3 e6
theorem LH.rename {A B : Ab} {th mb mb' : Dg → Prop} {e : Nat} {o n : ByteArray} (h : LH A th mb) (hoB : ∀ d, o ≠ fBd d) (hoI : ∀ d, o ≠ fI d) (hmb : ∀ d, mb d → mb' d)
  (hB : ∀ d f, n = fBd d → A.look o = some f → Cl A f ∧ sumL (A.now f) = d) (hI : ∀ d f, n = fI d → A.look o = some f → (Cl A f ∧ ∃ l, decB (A.now f) = some l ∧ nameB l = d ∧ ∀ y ∈ l, (A.look (fBd y.d)).isSome = true) ∧ mb' d) (hs : stRename o n A e B) :
  LH B th mb' ∧ (e = 0 → B.fs = A.fs ∧ B.writes = A.writes ∧ ∃ f, A.look o = some f ∧ ∀ nm, B.look nm = if nm = n then some f else if nm = o then none else A.look nm) := by
 obtain ⟨n1, n2, n3⟩ := h.names
 rcases rename_cases hs with ⟨h0, hq⟩ | ⟨h0, f, hf, h1, h2, h3, h4⟩
 ·exact ⟨(h.eqv hq).weak (fun d hd => hd) (fun d hd => hd.imp id (hmb d)), fun h => absurd h h0⟩
 ·have hlk : ∀ nm, Ab.lookIn (Ab.setN (Ab.delN A.names o) n f) nm = if nm = n then some f else if nm = o then none else A.look nm := fun nm => by rw [lookIn_set, look_del]; rfl
  have hBs : ∀ d, (A.look (fBd d)).isSome = true → (Ab.lookIn (Ab.setN (Ab.delN A.names o) n f) (fBd d)).isSome = true := fun d hd => by
   rw [hlk]
   split
   ·rfl
   ·rw [if_neg (fun e => hoB d e.symm)]; exact hd
  refine ⟨h.chg h1 h2 h3 h4 ⟨fun d g hg => ?_, fun d g hg => ?_⟩ (n2.move hf) (fun a g ha => ?_) (fun d hd => ⟨hd, ?_⟩) (fun d hd => hd.imp id (hmb d)) (fun d hd => ?_), fun _ => ⟨h3, h4, f, hf, fun nm => ?_⟩⟩
  ·rw [hlk] at hg
   split at hg
   ·rename_i e
    injection hg with hg
    subst hg
    exact hB d f e.symm hf
   ·rw [if_neg (fun e => hoB d e.symm)] at hg
    exact n1.b d g hg
  ·rw [hlk] at hg
   split at hg
   ·rename_i e
    injection hg with hg
    subst hg
    obtain ⟨⟨h5, l, h6, h7, h8⟩, _⟩ := hI d f e.symm hf
    exact ⟨h5, l, h6, h7, fun y hy => hBs _ (h8 y hy)⟩
   ·rw [if_neg (fun e => hoI d e.symm)] at hg
    obtain ⟨h5, l, h6, h7, h8⟩ := n1.i d g hg
    exact ⟨h5, l, h6, h7, fun y hy => hBs _ (h8 y hy)⟩
  ·rw [hlk] at ha
   split at ha
   ·injection ha with ha; subst ha; exact n3 o f hf
   ·split at ha
    ·cases ha
    ·exact n3 a g ha
  ·rw [hlk]
   split
   ·rfl
   ·rw [if_neg (fun e => hoI d e.symm)]; exact h.ths d hd _ h.lg.mem
  ·rw [hlk] at hd
   split at hd
   ·rename_i e; exact .inr (hI d f e.symm hf).2
   ·rw [if_neg (fun e => hoI d e.symm)] at hd
    exact (h.im _ h.lg.mem d hd).imp id (hmb d)
  ·show Ab.lookIn B.names nm = _
   rw [h1, hlk]
end Go.Proofs.YtpecmnaikjbanaaGreatDoor
/- blobs, plain: what any crash leaves right: kept by a store's changes. -/
namespace Go.Proofs.YtpecmnaikjbanaaGreatDoor
open Go Go.SL
def LS (s : Sto) (th mb : Dg → Prop) : Prop := LH s.A th mb ∧ (s.brk = false → LQ s.A)
theorem LQ.free {A : Ab} {th mb : Dg → Prop} (h : LH A th mb) (q : LQ A) {x : Dg} {f : Nat} (hf : A.look (fSd x) = some f) : ∀ st ∈ A.states, ∀ d, Ab.lookIn st (fBd d) ≠ some f ∧ Ab.lookIn st (fI d) ≠ some f := fun st hst d => by
 obtain ⟨_, n2, _⟩ := h.names
 obtain ⟨h1, h2⟩ := q.same st hst d
 rw [h1, h2]
 exact ⟨fun e => fSd_ne_fBd _ _ (n2 _ _ _ hf e), fun e => fSd_ne_fI _ _ (n2 _ _ _ hf e)⟩
theorem LS.of {A : Ab} {beg : List (Dg × Bl)} {brk : Bool} {th mb : Dg → Prop} (h : LH A th mb) (q : brk = false → LQ A) : LS ⟨A, beg, brk⟩ th mb := ⟨h, q⟩
theorem or_ne {b : Bool} {e : Nat} (h : (b || decide (e ≠ 0)) = false) : b = false ∧ e = 0 := by
 cases b with
 | true => cases h
 | false => exact ⟨rfl, by simpa using h⟩
theorem LS.begin {q : Int} {x : Bl} {s t : Sto} {e : Nat} {th mb : Dg → Prop} (h : LS s th mb) (hR : BeginR q x s e t) : LS t th mb := by
 unfold BeginR at hR
 split at hR
 ·rw [hR.2]; exact h
 rename_i hb
 have hb' : s.brk = false := by simpa using hb
 split at hR
 ·rw [hR.2]; exact h
 split at hR
 ·rw [hR.2]; exact h
 split at hR
 ·rw [hR.2]; exact h
 split at hR
 ·rw [hR.2]; exact h
 ·obtain ⟨e1, s1, ⟨B, hruns, rfl⟩, hc⟩ := hR
  have key : LH B th mb ∧ (e1 = 0 → LQ B) := by
   obtain ⟨e2, A1, h1, hc1⟩ := hruns
   obtain ⟨g1, k1⟩ := h.1.create (fun d => fSd_ne_fBd _ _) (fun d => fSd_ne_fI _ _) h1
   rcases hc1 with ⟨hne, rfl, rfl⟩ | ⟨h0, e3, A2, h2, hc2⟩
   ·exact ⟨g1, fun h => absurd h hne⟩
   obtain ⟨_, k2, _⟩ := k1 h0
   obtain ⟨g2, k3⟩ := g1.syncNames h2
   rcases hc2 with ⟨hne, rfl, rfl⟩ | ⟨h3, rfl, rfl⟩
   ·exact ⟨g2, fun h => absurd h hne⟩
   obtain ⟨k4, k5, _⟩ := k3 h3
   refine ⟨g2, fun _ => LQ.one (by rw [k4, k5]) fun d => ?_⟩
   have : B.look (fN d) = A1.look (fN d) := by unfold Ab.look; rw [k5]
   rw [this, k2 _ (fun e => fSd_ne_fN _ _ e.symm)]
   exact (h.2 hb').noN d
  rcases hc with ⟨_, _, rfl⟩ | ⟨_, _, rfl⟩
  ·exact ⟨key.1, fun hh => key.2 (or_ne hh).2⟩
  ·exact ⟨key.1, fun hh => key.2 (or_ne hh).2⟩
theorem mayS_zero {s : Sto} {x : Bl} (h : ¬ mayS s x ≠ 0) : s.brk = false := by
 unfold mayS at h
 cases hb : s.brk with
 | false => rfl
 | true => rw [hb] at h; simp at h
theorem LS.put {x : Bl} {i : Int} {b : List UInt8} {s t : Sto} {e : Nat} {th mb : Dg → Prop} (h : LS s th mb) (hR : PutS x i b s e t) : LS t th mb := by
 unfold PutS at hR
 split at hR
 ·rw [hR.2]; exact h
 rename_i hm
 have hb' := mayS_zero hm
 split at hR
 ·rw [hR.2]; exact h
 split at hR
 ·rw [hR.2]; exact h
 ·obtain ⟨B, ⟨e1, A1, h1, hc1⟩, rfl⟩ := hR
  have hq := h.2 hb'
  obtain ⟨g1, k1, k2, _⟩ := h.1.write (fun f hf => hq.free h.1 hf) h1
  have hBA : B = A1 := by rcases hc1 with ⟨_, _, rfl⟩ | ⟨_, _, rfl⟩ <;> rfl
  subst hBA
  refine ⟨g1, fun _ => ⟨fun st hst d => ?_, fun d => ?_⟩⟩
  ·simp only at hst ⊢
   unfold Ab.look
   rw [k1]
   exact hq.same st (by rw [k2] at hst; exact hst) d
  ·simp only
   unfold Ab.look
   rw [k1]
   exact hq.noN d
theorem LS.sync {x : Bl} {s t : Sto} {e : Nat} {th mb : Dg → Prop} (h : LS s th mb) (hR : SyncS x s e t) : LS t th mb := by
 unfold SyncS at hR
 split at hR
 ·rw [hR.2]; exact h
 rename_i hm
 have hb' := mayS_zero hm
 obtain ⟨B, ⟨e1, A1, h1, hc1⟩, rfl⟩ := hR
 have hq := h.2 hb'
 obtain ⟨g1, k1, k2, _⟩ := h.1.sync h1
 have hBA : B = A1 := by rcases hc1 with ⟨_, _, rfl⟩ | ⟨_, _, rfl⟩ <;> rfl
 subst hBA
 refine ⟨g1, fun _ => ⟨fun st hst d => ?_, fun d => ?_⟩⟩
 ·simp only at hst ⊢
  unfold Ab.look
  rw [k1]
  exact hq.same st (by rw [k2] at hst; exact hst) d
 ·simp only
  unfold Ab.look
  rw [k1]
  exact hq.noN d
theorem LS.abort {x : Bl} {s t : Sto} {e : Nat} {th mb : Dg → Prop} (h : LS s th mb) (hR : AbortS x s e t) : LS t th mb := by
 unfold AbortS at hR
 split at hR
 ·rw [hR.2]; exact h
 rename_i hm
 have hb' := mayS_zero hm
 obtain ⟨s1, ⟨B, ⟨e1, A1, h1, hc1⟩, rfl⟩, rfl⟩ := hR
 have hq := h.2 hb'
 obtain ⟨g1, k1, k2⟩ := h.1.remove (th' := th) (mb' := mb) (fun y e => absurd e (fSd_ne_fBd _ _)) (fun d hd => ⟨hd, fun e => fSd_ne_fI _ _ e.symm⟩) (fun d hd => hd) h1
 have hBA : B = A1 ∧ e = e1 := by
  rcases hc1 with ⟨_, h2, h3⟩ | ⟨h0, h2, h3⟩
  ·exact ⟨h3, h2⟩
  ·exact ⟨h3, by rw [h2, h0]⟩
 obtain ⟨rfl, rfl⟩ := hBA
 have hQ : e = 0 → LQ B := fun h0 => by
  obtain ⟨j1, j2, _⟩ := k2 h0
  have hl : ∀ nm, B.look nm = if nm = fS x then none else s.A.look nm := fun nm => by
   unfold Ab.look; rw [j1]; exact look_del _ _ _
  have hlB : ∀ d, B.look (fBd d) = s.A.look (fBd d) := fun d => by rw [hl, if_neg (fun e => fSd_ne_fBd _ _ e.symm)]
  have hlI : ∀ d, B.look (fI d) = s.A.look (fI d) := fun d => by rw [hl, if_neg (fun e => fSd_ne_fI _ _ e.symm)]
  refine ⟨fun st hst d => ?_, fun d => by rw [hl, if_neg (fun e => fSd_ne_fN _ _ e.symm)]; exact hq.noN d⟩
  rw [j2] at hst
  rcases List.mem_append.1 hst with h5 | h5
  ·rw [hlB, hlI]; exact hq.same st h5 d
  ·rw [List.mem_singleton.1 h5, ← j1]; exact ⟨rfl, rfl⟩
 split
 ·exact ⟨g1, fun hh => hQ (or_ne hh).2⟩
 ·exact ⟨g1, fun hh => hQ (or_ne hh).2⟩
theorem whole_nil (x : Bl) : wholeB x [] = false := by
 cases h : wholeB x [] with
 | false => rfl
 | true =>
  have h1 := (whole_size h).1
  unfold wholeB at h
  obtain ⟨h2, _⟩ := blob_ok (of_decide_eq_true h)
  simp only [rightB, decide_eq_true_eq] at h2
  simp at h1
  omega
theorem LS.install {x : Bl} {s t : Sto} {e : Nat} {th mb : Dg → Prop} (h : LS s th mb) (hR : InstallS x s e t) : LS t th mb := by
 unfold InstallS at hR
 split at hR
 ·rw [hR.2]; exact h
 rename_i hm
 have hb' := mayS_zero hm
 split at hR
 ·obtain ⟨e1, hab, _⟩ := hR
  exact h.abort hab
 rename_i hw
 have hw' : wholeB x ((bytesF s.A (fS x)).getD []) = true := by simpa using hw
 obtain ⟨s1, ⟨B, hruns, rfl⟩, rfl⟩ := hR
 have hq := h.2 hb'
 have hnow : ∀ f, s.A.look (fS x) = some f → sumL (s.A.now f) = x.d := fun f hf => by
  unfold bytesF at hw'
  rw [hf] at hw'
  simp only at hw'
  split at hw'
  ·rw [show (none : Option (List UInt8)).getD [] = [] from rfl, whole_nil] at hw'; cases hw'
  ·exact (whole_size hw').2
 have key : LH B th mb ∧ (e = 0 → LQ B) := by
  obtain ⟨e1, A1, h1, hc1⟩ := hruns
  obtain ⟨g1, k1, k2, k3, k4⟩ := h.1.sync h1
  rcases hc1 with ⟨hne, rfl, rfl⟩ | ⟨h0, e2, A2, h2, hc2⟩
  ·exact ⟨g1, fun h => absurd h hne⟩
  have hl1 : ∀ nm, A1.look nm = s.A.look nm := fun nm => by unfold Ab.look; rw [k1]
  obtain ⟨g2, k5⟩ := g1.rename (mb' := mb) (fun d => fSd_ne_fBd _ _) (fun d => fSd_ne_fI _ _) (fun d hd => hd) (fun d f hd hf => by
   rw [hl1] at hf
   refine ⟨k4 h0 f hf, ?_⟩
   rw [(k3 _ f hf).1, hnow f hf]
   exact fBd_inj hd) (fun d f hd _ => absurd hd (fBd_ne_fI _ _)) h2
  rcases hc2 with ⟨hne, rfl, rfl⟩ | ⟨h0', e3, A3, h3, hc3⟩
  ·exact ⟨g2, fun h => absurd h hne⟩
  obtain ⟨_, _, f, _, k6⟩ := k5 h0'
  obtain ⟨g3, k7⟩ := g2.syncNames h3
  rcases hc3 with ⟨hne, rfl, rfl⟩ | ⟨h0'', rfl, rfl⟩
  ·exact ⟨g3, fun h => absurd h hne⟩
  obtain ⟨k8, k9, _⟩ := k7 h0''
  refine ⟨g3, fun _ => LQ.one (by rw [k8, k9]) fun d => ?_⟩
  have : B.look (fN d) = A2.look (fN d) := by unfold Ab.look; rw [k9]
  rw [this, k6, if_neg (fun e => fBd_ne_fN _ _ e.symm), if_neg (fun e => fSd_ne_fN _ _ e.symm), hl1]
  exact hq.noN d
 split
 ·exact ⟨key.1, fun hh => key.2 (or_ne hh).2⟩
 ·exact ⟨key.1, fun hh => key.2 (or_ne hh).2⟩
theorem LS.commit {l : List Bl} {s t : Sto} {e : Nat} {th mb : Dg → Prop} (h : LS s th mb) (hR : CommitS l s e t) :
  (e = 0 → LS t (fun d => th d ∨ d = nameB l) mb) ∧ (e ≠ 0 → ∀ d0, (imageB l = 0 → d0 = nameB l) → LS t th (fun d => mb d ∨ d = d0)) := by
 have hw : ∀ d0, LS s th (fun d => mb d ∨ d = d0) := fun d0 => ⟨h.1.weak (fun d hd => hd) (fun d hd => hd.imp id .inl), h.2⟩
 unfold CommitS at hR
 split at hR
 ·rw [hR.2]; exact ⟨fun h0 => (by rw [hR.1] at h0; cases h0), fun _ d0 _ => hw d0⟩
 rename_i hb
 have hb' : s.brk = false := by simpa using hb
 have hq := h.2 hb'
 split at hR
 ·rename_i hi
  rw [hR.2]; exact ⟨fun h0 => absurd (hR.1.symm.trans h0) hi, fun _ d0 _ => hw d0⟩
 rename_i hi
 have hi' : imageB l = 0 := by omega
 split at hR
 ·rename_i hhas
  rw [hR.2]
  refine ⟨fun _ => ⟨⟨h.1.lg, fun d hd st hst => ?_, fun st hst d hd => ?_⟩, h.2⟩, fun h0 => absurd hR.1 h0⟩
  ·rcases hd with hd | rfl
   ·exact h.1.ths d hd st hst
   ·rw [(hq.same st hst _).2]; exact hhas
  ·rcases h.1.im st hst d hd with h1 | h1
   ·exact .inl (.inl h1)
   ·exact .inr h1
 split at hR
 ·rw [hR.2]; exact ⟨fun h0 => (by rw [hR.1] at h0; cases h0), fun _ d0 _ => hw d0⟩
 rename_i hall
 have hall' : ∀ y ∈ l, (s.A.look (fBd y.d)).isSome = true := fun y hy => by
  cases hx : s.A.look (fBd y.d) with
  | some c => rfl
  | none => exact absurd (List.any_eq_true.2 ⟨y, hy, by unfold hasF; rw [fB_eq, hx]; rfl⟩) hall
 have hnN : hasF s.A (fileN kN (nameB l)) = false := by unfold hasF; rw [show s.A.look (fileN kN (nameB l)) = none from hq.noN _]; rfl
 rw [hnN, if_neg (by simp)] at hR
 obtain ⟨B, hruns, rfl⟩ := hR
 simp only [List.nil_append, moveS, List.cons_append] at hruns
 rw [show fileN kN (nameB l) = fN (nameB l) from rfl, show fileN kI (nameB l) = fI (nameB l) from rfl] at hruns
 have hmb : ∀ {A : Ab}, LH A th mb → LH A th (fun d => mb d ∨ d = nameB l) := fun hA => hA.weak (fun d hd => hd) (fun d hd => hd.imp id .inl)
 have key : LH B th (fun d => mb d ∨ d = nameB l) ∧ (e = 0 → LQ B ∧ LH B (fun d => th d ∨ d = nameB l) mb) := by
  obtain ⟨e1, A1, h1, hc1⟩ := hruns
  obtain ⟨g1, k1⟩ := h.1.create (fun d e => fBd_ne_fN _ _ e.symm) (fun d e => fI_ne_fN _ _ e.symm) h1
  rcases hc1 with ⟨hne, rfl, rfl⟩ | ⟨h0, e2, A2, h2, hc2⟩
  ·exact ⟨hmb g1, fun h => absurd h hne⟩
  obtain ⟨_, k2, k3, k4, k5⟩ := k1 h0
  obtain ⟨f, hf⟩ := Option.isSome_iff_exists.1 k3
  obtain ⟨k6, k7⟩ := k5 f hf
  obtain ⟨g2, j1, j2, j3, j4⟩ := g1.write (fun f' hf' st hst d => by
   rw [hf] at hf'; injection hf' with hf'; subst hf'
   exact ⟨k7 st hst _ (fBd_ne_fN _ _), k7 st hst _ (fI_ne_fN _ _)⟩) h2
  rcases hc2 with ⟨hne, rfl, rfl⟩ | ⟨h0', e3, A3, h3, hc3⟩
  ·exact ⟨hmb g2, fun h => absurd h hne⟩
  have hf2 : A2.look (fN (nameB l)) = some f := by unfold Ab.look; rw [j1]; exact hf
  have hnow2 : A2.now f = encB l := by
   obtain ⟨f', hf', hn⟩ := j3 h0'
   rw [hf] at hf'; injection hf' with hf'; subst hf'
   rw [hn, k6]
   exact wroteL_add [] _
  obtain ⟨g3, m1, m2, m3, m4⟩ := g2.sync h3
  rcases hc3 with ⟨hne, rfl, rfl⟩ | ⟨h0'', e4, A4, h4, hc4⟩
  ·exact ⟨hmb g3, fun h => absurd h hne⟩
  have hl3 : ∀ nm, A3.look nm = A1.look nm := fun nm => by unfold Ab.look; rw [m1, j1]
  have hf3 : A3.look (fN (nameB l)) = some f := by rw [hl3]; exact hf
  obtain ⟨g4, n1⟩ := g3.rename (mb' := fun d => mb d ∨ d = nameB l) (fun d e => fBd_ne_fN _ _ e.symm) (fun d e => fI_ne_fN _ _ e.symm) (fun d hd => .inl hd) (fun d f' hd _ => absurd hd.symm (fBd_ne_fI _ _)) (fun d f' hd hf' => by
   rw [hf3] at hf'; injection hf' with hf'; subst hf'
   have hd' : nameB l = d := fI_inj hd
   refine ⟨⟨m4 h0'' f hf2, l, ?_, hd', fun y hy => ?_⟩, .inr hd'.symm⟩
   ·rw [(m3 _ f hf2).1, hnow2]; exact decB_enc hi'
   ·rw [hl3, k2 _ (fBd_ne_fN _ _)]; exact hall' y hy) h4
  rcases hc4 with ⟨hne, rfl, rfl⟩ | ⟨h0''', e5, A5, h5, hc5⟩
  ·exact ⟨g4, fun h => absurd h hne⟩
  obtain ⟨_, _, f', hf', n2⟩ := n1 h0'''
  obtain ⟨g5, n3⟩ := g4.syncNames h5
  rcases hc5 with ⟨hne, rfl, rfl⟩ | ⟨h5', rfl, rfl⟩
  ·exact ⟨g5, fun h => absurd h hne⟩
  obtain ⟨n4, n5, _⟩ := n3 h5'
  have hlB : ∀ nm, B.look nm = A4.look nm := fun nm => by unfold Ab.look; rw [n5]
  refine ⟨g5, fun _ => ⟨LQ.one (by rw [n4, n5]) fun d => ?_, g5.lg, fun d hd st hst => ?_, fun st hst d hd => ?_⟩⟩
  ·rw [hlB, n2, if_neg (fun e => fI_ne_fN _ _ e.symm)]
   by_cases hdn : fN d = fN (nameB l)
   ·rw [if_pos hdn]
   ·rw [if_neg hdn, hl3, k2 _ hdn]; exact hq.noN d
  ·rcases hd with hd | rfl
   ·exact g5.ths d hd st hst
   ·rw [n4, List.mem_singleton] at hst
    rw [hst]
    show (A4.look (fI (nameB l))).isSome = true
    rw [n2, if_pos rfl]; rfl
  ·rcases g5.im st hst d hd with h1 | h1 | h1
   ·exact .inl (.inl h1)
   ·exact .inr h1
   ·exact .inl (.inr h1)
 refine ⟨fun h0 => ⟨(key.2 h0).2, fun _ => (key.2 h0).1⟩, fun h0 d0 hd0 => ?_⟩
 rw [hd0 hi']
 exact ⟨key.1, fun hh => absurd (or_ne hh).2 h0⟩
/-! ## Drop -/
theorem mem_imagesA (A : Ab) (d : Dg) : d ∈ imagesF A ↔ (A.look (fI d)).isSome = true := by
 unfold imagesF
 rw [List.mem_filterMap]
 have hmem : ∀ nm, nm ∈ namesF A ↔ (A.look nm).isSome = true := fun nm => by
  rw [(namesF_perm A).mem_iff]
  unfold Ab.look Ab.lookIn
  rw [Option.isSome_map, List.find?_isSome, List.mem_map]
  constructor
  ·rintro ⟨x, hx, rfl⟩; exact ⟨x, hx, by simp⟩
  ·rintro ⟨x, hx, he⟩; exact ⟨x, hx, by simpa using he⟩
 constructor
 ·rintro ⟨nm, hn, hd⟩
  rw [hashN_iff.1 hd] at hn
  exact (hmem _).1 hn
 ·intro hd
  exact ⟨fI d, (hmem _).2 hd, hashN_file _ _⟩
theorem kept_of {A : Ab} (hon : A.off = false) {d : Dg} {f : Nat} {l : List Bl} (hf : A.look (fI d) = some f) (hl : decB (A.now f) = some l) : ∀ z ∈ l, z.d ∈ keptF A := fun z hz => by
 unfold keptF
 rw [List.mem_flatMap]
 refine ⟨d, (mem_imagesA A d).2 (by rw [hf]; rfl), ?_⟩
 unfold imageF bytesF
 rw [show A.look (fileN kI d) = some f from hf]
 simp only [hon]
 rw [show ((if (false : Bool) = true then (none : Option (List UInt8)) else some (A.now f)).bind decB) = decB (A.now f) from rfl, hl]
 exact List.mem_map.2 ⟨z, hz, rfl⟩
theorem LH.sweep {th mb : Dg → Prop} (kept : List Dg) : ∀ (l : List Bl) {A B : Ab} {e : Nat}, LH A th mb → (∀ d f m, A.look (fI d) = some f → decB (A.now f) = some m → ∀ z ∈ m, z.d ∈ kept) → SweepL kept l A e B →
  LH B th mb ∧ (∀ d, B.look (fI d) = A.look (fI d) ∧ B.look (fN d) = A.look (fN d))
 | [], A, B, e, h, hk, hs => by
  obtain ⟨_, rfl⟩ := hs
  exact ⟨h, fun d => ⟨rfl, rfl⟩⟩
 | y :: l, A, B, e, h, hk, hs => by
  unfold SweepL at hs
  split at hs
  ·exact LH.sweep kept l h hk hs
  ·rename_i hy
   have hyk : y.d ∉ kept := fun hh => hy (.inl hh)
   obtain ⟨e1, A1, h1, hc⟩ := hs
   obtain ⟨g1, k1, k2⟩ := h.remove (th' := th) (mb' := mb) (fun y' e d f m hf hm z hz hzd => hyk (by
    rw [fBd_inj (show fBd y.d = fBd y'.d from e), ← hzd]
    exact hk d f m hf hm z hz)) (fun d hd => ⟨hd, fun e => fBd_ne_fI _ _ e.symm⟩) (fun d hd => hd) h1
   have hl1 : ∀ nm, (∀ d, nm ≠ fBd d) → A1.look nm = A.look nm := fun nm hn => by
    by_cases h0 : e1 = 0
    ·obtain ⟨j1, _⟩ := k2 h0
     unfold Ab.look; rw [j1, look_del, if_neg (hn _)]
    ·unfold Ab.look; rw [(k1 h0).names]
   have hfs : A1.fs = A.fs := by
    by_cases h0 : e1 = 0
    ·exact (k2 h0).2.2.1
    ·exact (k1 h0).fs
   have hI := fun d => hl1 (fI d) (fun d' e => fBd_ne_fI _ _ e.symm)
   have hN := fun d => hl1 (fN d) (fun d' e => fBd_ne_fN _ _ e.symm)
   rcases hc with ⟨_, _, rfl⟩ | ⟨_, hs⟩
   ·exact ⟨g1, fun d => ⟨hI d, hN d⟩⟩
   ·obtain ⟨g2, j1⟩ := LH.sweep kept l g1 (fun d f m hf hm => hk d f m (by rw [← hI]; exact hf) (by rw [← now_file (file_eq hfs f)]; exact hm)) hs
    exact ⟨g2, fun d => ⟨(j1 d).1.trans (hI d), (j1 d).2.trans (hN d)⟩⟩
theorem LS.drop {d : Dg} {s t : Sto} {e : Nat} {th mb : Dg → Prop} (h : LS s th mb) (hR : DropS d s e t) :
  (e = 0 → LS t (fun x => th x ∧ x ≠ d) mb) ∧ (e ≠ 0 → LS t (fun x => th x ∧ x ≠ d) (fun x => mb x ∨ x = d)) := by
 have hsplit : ∀ x, th x ∨ mb x → (th x ∧ x ≠ d) ∨ (mb x ∨ x = d) := fun x hx => by
  by_cases hxd : x = d
  ·exact .inr (.inr hxd)
  ·rcases hx with hx | hx
   ·exact .inl ⟨hx, hxd⟩
   ·exact .inr (.inl hx)
 have hw : LS s (fun x => th x ∧ x ≠ d) (fun x => mb x ∨ x = d) := ⟨h.1.weak (fun x hx => hx.1) hsplit, h.2⟩
 unfold DropS at hR
 split at hR
 ·rw [hR.2]; exact ⟨fun h0 => (by rw [hR.1] at h0; cases h0), fun _ => hw⟩
 rename_i hb
 have hb' : s.brk = false := by simpa using hb
 have hq := h.2 hb'
 split at hR
 ·rw [hR.2]; exact ⟨fun h0 => (by rw [hR.1] at h0; cases h0), fun _ => hw⟩
 rename_i x hx
 obtain ⟨B, hruns, rfl⟩ := hR
 have key : LH B (fun x => th x ∧ x ≠ d) (fun x => mb x ∨ x = d) ∧ (e = 0 → LQ B ∧ B.states = [B.names] ∧ B.look (fI d) = none) := by
  obtain ⟨e1, A1, h1, hc1⟩ := hruns
  obtain ⟨g1, k1, k2⟩ := h.1.remove (th' := fun x => th x ∧ x ≠ d) (mb' := fun x => mb x ∨ x = d) (fun y e => absurd e.symm (fBd_ne_fI _ _)) (fun x hx => ⟨hx.1, fun e => hx.2 (fI_inj e)⟩) hsplit h1
  rcases hc1 with ⟨hne, rfl, rfl⟩ | ⟨h0, e2, A2, ⟨m, hp, h2⟩, hc2⟩
  ·exact ⟨g1, fun h => absurd h hne⟩
  obtain ⟨j1, j2, j3, j4, j5⟩ := k2 h0
  obtain ⟨g2, j6⟩ := LH.sweep (keptF A1) m g1 (fun d' f m' hf hm => kept_of j5 hf hm) h2
  rcases hc2 with ⟨hne, rfl, rfl⟩ | ⟨h0', e3, A3, h3, hc3⟩
  ·exact ⟨g2, fun h => absurd h hne⟩
  obtain ⟨g3, k3⟩ := g2.syncNames h3
  rcases hc3 with ⟨hne, rfl, rfl⟩ | ⟨h0'', rfl, rfl⟩
  ·exact ⟨g3, fun h => absurd h hne⟩
  obtain ⟨n4, n5, _⟩ := k3 h0''
  have hlB : ∀ nm, B.look nm = A2.look nm := fun nm => by unfold Ab.look; rw [n5]
  have hl1 : ∀ nm, A1.look nm = if nm = fI d then none else s.A.look nm := fun nm => by unfold Ab.look; rw [j1]; exact look_del _ _ _
  refine ⟨g3, fun _ => ⟨LQ.one (by rw [n4, n5]) fun d' => ?_, by rw [n4, n5], ?_⟩⟩
  ·rw [hlB, (j6 d').2, hl1, if_neg (fun e => fI_ne_fN _ _ e.symm)]; exact hq.noN d'
  ·rw [hlB, (j6 d).1, hl1, if_pos rfl]
 refine ⟨fun h0 => ?_, fun h0 => ⟨key.1, fun hh => absurd (or_ne hh).2 h0⟩⟩
 obtain ⟨k1, k2, k3⟩ := key.2 h0
 refine ⟨⟨key.1.lg, key.1.ths, fun st hst x hx => ?_⟩, fun _ => k1⟩
 rcases key.1.im st hst x hx with h5 | h5 | h5
 ·exact .inl h5
 ·exact .inr h5
 ·exfalso
  simp only at hst
  rw [k2, List.mem_singleton] at hst
  rw [hst, h5] at hx
  have : (B.look (fI d)).isSome = true := hx
  rw [k3] at this
  cases this
end Go.Proofs.YtpecmnaikjbanaaGreatDoor
/- blobs, plain: a crash; opened again. -/
namespace Go.Proofs.YtpecmnaikjbanaaGreatDoor
open Go Go.SL
theorem lookIn_memF {l : Nms} {nm : ByteArray} {f : Nat} (h : Ab.lookIn l nm = some f) : (nm, f) ∈ l := by
 unfold Ab.lookIn at h
 cases hx : l.find? (fun x => decide (x.1 = nm)) with
 | none => rw [hx] at h; cases h
 | some x =>
  rw [hx] at h
  injection h with h
  have h1 := List.mem_of_find?_eq_some hx
  have h2 : x.1 = nm := by simpa using List.find?_some hx
  rw [← h2, ← h]
  exact h1
theorem crash_pick {A : Ab} (h : A.states ≠ []) (last : Int) (stay : List UInt8) (torn cut : Int) : (A.crash last stay torn cut).names ∈ A.states := by
 simp only [Ab.crash]
 have hl : 0 < A.states.length := List.length_pos_iff.2 h
 have : (max 0 (min last ((A.states.length : Int) - 1))).toNat < A.states.length := by omega
 rw [List.getD_eq_getElem?_getD, List.getElem?_eq_getElem this]
 exact List.getElem_mem _
theorem crash_ids (A : Ab) (last : Int) (stay : List UInt8) (torn cut : Int) : (A.crash last stay torn cut).fs.map (·.1) = A.fs.map (·.1) := by
 simp only [Ab.crash]
 rw [ids_map _ _ (fun x => by split <;> rfl), lasts_id]
theorem LH.crash {A : Ab} {th mb : Dg → Prop} (h : LH A th mb) (last : Int) (stay : List UInt8) (torn cut : Int) :
  LH (A.crash last stay torn cut) th mb ∧ (∀ nm f, Ab.lookIn (A.crash last stay torn cut).names nm = some f → Cl A f → (A.crash last stay torn cut).file f = A.file f) := by
 have hst := crash_pick (List.ne_nil_of_mem h.lg.mem) last stay torn cut
 have hids := crash_ids A last stay torn cut
 have hcf := fun f => crash_file (A := A) last stay torn cut (f := f)
 have hs : (A.crash last stay torn cut).states = [(A.crash last stay torn cut).names] := rfl
 have hw : (A.crash last stay torn cut).writes = [] := rfl
 generalize A.crash last stay torn cut = B at hst hids hcf hs hw
 have hre : ∀ nm f, Ab.lookIn B.names nm = some f → f ∈ Ab.reach (A.states ++ [B.names]) := fun nm f hf => by
  unfold Ab.reach
  rw [List.mem_flatMap]
  exact ⟨B.names, by simp, List.mem_map.2 ⟨_, lookIn_memF hf, rfl⟩⟩
 have hk := h.lg.known _ hst
 have hfile : ∀ nm f, Ab.lookIn B.names nm = some f → Cl A f → B.file f = A.file f := fun nm f hf hc => (hcf f (hk nm f hf) (hre nm f hf)).2 hc
 refine ⟨⟨⟨fun st hst2 => ?_, fun st hst2 => ?_, by rw [hs]; simp, fun st hst2 => ?_, by rw [hw]; simp⟩, fun d hd st hst2 => ?_, fun st hst2 => ?_⟩, hfile⟩
 ·rw [hs, List.mem_singleton] at hst2
  rw [hst2]
  have hCl : ∀ nm f, Ab.lookIn B.names nm = some f → Cl B f := fun nm f hf => ⟨by rw [(hcf f (hk nm f hf) (hre nm f hf)).1], by rw [hw]; simp⟩
  have hg := h.lg.good _ hst
  refine ⟨fun d f hf => ?_, fun d f hf => ?_⟩
  ·obtain ⟨h1, h2⟩ := hg.b d f hf
   exact ⟨hCl _ f hf, by rw [now_file (hfile _ f hf h1)]; exact h2⟩
  ·obtain ⟨h1, h2⟩ := hg.i d f hf
   exact ⟨hCl _ f hf, by rw [now_file (hfile _ f hf h1)]; exact h2⟩
 ·rw [hs, List.mem_singleton] at hst2
  rw [hst2]; exact h.lg.inj _ hst
 ·rw [hs, List.mem_singleton] at hst2
  rw [hst2, hids]; exact hk
 ·rw [hs, List.mem_singleton] at hst2
  rw [hst2]; exact h.ths d hd _ hst
 ·rw [hs, List.mem_singleton] at hst2
  rw [hst2]; exact h.im _ hst
/-! ## opened -/
theorem remove_on {A B : Ab} {e : Nat} (hp : A.plan = []) (ho : A.off = false) {nm : ByteArray} {f : Nat} (hn : isName nm = true) (hf : A.look nm = some f) (h : stRemove nm A e B) : e = 0 ∧ B = A.chg (Ab.delN A.names nm) := by
 unfold stRemove Ab.remove at h
 have h1 : A.meet true = (0, A) := by simp [Ab.meet, hp, ho]
 have h2 : A.find nm true = (0, some f, A) := by simp [Ab.find, h1, hf]
 rw [hn, h2] at h
 injection h with h3 h4
 exact ⟨h3, h4⟩
theorem scrubN {th mb : Dg → Prop} : ∀ (l : List ByteArray) {A B : Ab} {e : Nat}, LH A th mb → A.plan = [] → A.off = false → (A.names.map (·.1)).Nodup → l.Nodup → (∀ nm ∈ l, (A.look nm).isSome = true) → Scrub kN (fun _ _ => false) l A e B →
  e = 0 ∧ LH B th mb ∧ B.plan = [] ∧ B.off = false ∧ (B.names.map (·.1)).Nodup ∧ (∀ nm, (∀ d, nm ≠ fN d) → B.look nm = A.look nm) ∧ (∀ d, B.look (fN d) = if fN d ∈ l then none else A.look (fN d)) ∧ B.fs = A.fs ∧ B.writes = A.writes ∧ B.room = A.room ∧
   B.names.length ≤ A.names.length ∧ ((B.names.length < A.names.length) ∨ B = A)
 | [], A, B, e, h, hp, ho, hn, hl, hm, hs => by
  obtain ⟨rfl, rfl⟩ := hs
  exact ⟨rfl, h, hp, ho, hn, fun _ _ => rfl, fun d => by simp, rfl, rfl, rfl, Nat.le_refl _, .inr rfl⟩
 | nm :: l, A, B, e, h, hp, ho, hn, hl, hm, hs => by
  rw [List.nodup_cons] at hl
  have hm2 : ∀ k ∈ l, (A.look k).isSome = true := fun k hk => hm k (List.mem_cons_of_mem _ hk)
  unfold Scrub at hs
  cases hh : hashN kN nm with
  | none =>
   rw [hh] at hs
   obtain ⟨r1, r2, r3, r4, r5, r6, r7, r8⟩ := scrubN l h hp ho hn hl.2 hm2 hs
   have hne : ∀ d, fN d ≠ nm := fun d e => by rw [← e] at hh; unfold fN at hh; rw [hashN_file] at hh; cases hh
   refine ⟨r1, r2, r3, r4, r5, r6, fun d => ?_, r8⟩
   rw [r7]
   simp only [List.mem_cons, hne d, false_or]
  | some d0 =>
   have hnm : nm = fN d0 := hashN_iff.1 hh
   rw [hh] at hs
   simp only at hs
   rw [if_neg (by simp)] at hs
   obtain ⟨e1, A1, h1, hc⟩ := hs
   obtain ⟨f, hf⟩ := Option.isSome_iff_exists.1 (hm nm (List.mem_cons_self ..))
   obtain ⟨rfl, rfl⟩ := remove_on hp ho (by rw [hnm]; exact isName_N d0) hf h1
   obtain ⟨g1, -, -⟩ := h.remove (th' := th) (mb' := mb) (fun y e => absurd (e.symm.trans hnm) (fBd_ne_fN _ _)) (fun d hd => ⟨hd, fun e => fI_ne_fN _ _ (e.trans hnm)⟩) (fun d hd => hd) h1
   rcases hc with ⟨hne, _⟩ | ⟨_, hs⟩
   ·exact absurd rfl hne
   have hl1 : ∀ k, (A.chg (Ab.delN A.names nm)).look k = if k = nm then none else A.look k := fun k => look_del A.names nm k
   have hlt : (Ab.delN A.names nm).length < A.names.length := by
    unfold Ab.delN
    rw [List.length_filter_lt_length_iff_exists]
    exact ⟨(nm, f), lookIn_memF hf, by simp⟩
   obtain ⟨r1, r2, r3, r4, r5, r6, r7, r8, r9, r10, r11, r12⟩ := scrubN l g1 hp ho ((List.filter_sublist.map _).nodup hn) hl.2 (fun k hk => by rw [hl1, if_neg (fun (e : k = nm) => hl.1 (by rw [← e]; exact hk))]; exact hm2 k hk) hs
   have r11' : B.names.length ≤ (Ab.delN A.names nm).length := r11
   refine ⟨r1, r2, r3, r4, r5, fun k hk => ?_, fun d => ?_, r8, r9, r10, by omega, .inl (by omega)⟩
   ·rw [r6 k hk, hl1, if_neg (fun e => hk d0 (e.trans hnm))]
   ·rw [r7, hl1]
    by_cases hd : fN d = nm
    ·rw [if_pos hd]; simp [hd]
    ·rw [if_neg hd]
     simp only [List.mem_cons, hd, false_or]
theorem mem_namesA (A : Ab) (nm : ByteArray) : nm ∈ namesF A ↔ (A.look nm).isSome = true := by
 rw [(namesF_perm A).mem_iff]
 unfold Ab.look Ab.lookIn
 rw [Option.isSome_map, List.find?_isSome, List.mem_map]
 constructor
 ·rintro ⟨x, hx, rfl⟩; exact ⟨x, hx, by simp⟩
 ·rintro ⟨x, hx, he⟩; exact ⟨x, hx, by simpa using he⟩
theorem Good.wholeF {A : Ab} (h : Good A A.names) (ho : A.off = false) {d : Dg} (hd : (A.look (fBd d)).isSome = true) : Proofs.YtpecmnaikjbanaaGreatDoor.wholeF A d = true := by
 obtain ⟨f, hf⟩ := Option.isSome_iff_exists.1 hd
 unfold Proofs.YtpecmnaikjbanaaGreatDoor.wholeF bytesF
 rw [show A.look (fileN kB d) = some f from hf]
 simp only [ho]
 exact decide_eq_true (h.b d f hf).2
theorem Good.completeF {A : Ab} (h : Good A A.names) (ho : A.off = false) {d : Dg} (hd : (A.look (fI d)).isSome = true) : Proofs.YtpecmnaikjbanaaGreatDoor.completeF A d = true := by
 obtain ⟨f, hf⟩ := Option.isSome_iff_exists.1 hd
 obtain ⟨_, l, h2, h3, h4⟩ := h.i d f hf
 unfold Proofs.YtpecmnaikjbanaaGreatDoor.completeF imageF bytesF
 rw [show A.look (fileN kI d) = some f from hf]
 simp only [ho]
 rw [show ((if (false : Bool) = true then (none : Option (List UInt8)) else some (A.now f)).bind decB) = decB (A.now f) from rfl, h2]
 simp only [h3, decide_true, Bool.true_and]
 rw [List.all_eq_true]
 exact fun y hy => h.wholeF ho (h4 y hy)
theorem LH.open {A B : Ab} {th mb : Dg → Prop} {e : Nat} (h : LH A th mb) (hp : A.plan = []) (ho : A.off = false) (hs : A.states = [A.names]) (hn : (A.names.map (·.1)).Nodup) (hO : OpenS A e B) :
  e = 0 ∧ LH B th mb ∧ LQ B ∧ B.plan = [] ∧ B.off = false ∧ (B.names.map (·.1)).Nodup ∧ (∀ nm, (∀ d, nm ≠ fN d) → B.look nm = A.look nm) ∧ B.fs = A.fs ∧ B.writes = A.writes ∧ B.room = A.room ∧ B.states.length ≤ 1 + A.names.length := by
 obtain ⟨e1, A3, ⟨e2, A1, h1, c1⟩, hfin⟩ := hO
 obtain ⟨rfl, rfl⟩ := scrub_none _ (fun nm hm d hd => by
  rw [hashN_iff.1 hd] at hm
  exact h.names.1.wholeF ho ((mem_namesA A _).1 hm)) h1
 rcases c1 with ⟨hne, _⟩ | ⟨_, e3, A2, h2, c2⟩
 ·exact absurd rfl hne
 have hnd : (namesF A1).Nodup := (namesF_perm A1).symm.nodup hn
 obtain ⟨rfl, g2, p2, o2, n2, l2, m2, f2, w2, r2, le2, lt2⟩ := scrubN _ h hp ho hn hnd (fun nm hm => (mem_namesA A1 nm).1 hm) h2
 have m2' : ∀ d, A2.look (fN d) = none := fun d => by
  rw [m2]
  split
  ·rfl
  ·rename_i hd
   rw [mem_namesA] at hd
   cases hx : A1.look (fN d) with
   | none => rfl
   | some f => rw [hx] at hd; exact absurd rfl hd
 rcases c2 with ⟨hne, _⟩ | ⟨_, e4, A4, h4, c4⟩
 ·exact absurd rfl hne
 obtain ⟨rfl, rfl⟩ := scrub_none _ (fun nm hm d hd => by
  rw [hashN_iff.1 hd] at hm
  exact g2.names.1.completeF o2 ((mem_namesA A2 _).1 hm)) h4
 rcases c4 with ⟨hne, _⟩ | ⟨_, rfl, rfl⟩
 ·exact absurd rfl hne
 by_cases hlt : A3.names.length < A1.names.length
 ·rw [if_pos ⟨rfl, hlt⟩] at hfin
  obtain ⟨g3, k3⟩ := g2.syncNames hfin
  have hm : A3.meet true = (0, A3) := by simp [Ab.meet, p2, o2]
  unfold stSyncNames Ab.syncNames at hfin
  rw [hm, if_pos rfl] at hfin
  injection hfin with he hB
  subst he
  obtain ⟨k4, k5, k6, k7⟩ := k3 rfl
  have hlB : ∀ nm, B.look nm = A3.look nm := fun nm => by unfold Ab.look; rw [k5]
  refine ⟨rfl, g3, LQ.one (by rw [k4, k5]) (fun d => by rw [hlB]; exact m2' d), by rw [hB]; exact p2, by rw [hB]; exact o2, by rw [k5]; exact n2, fun nm hnm => (hlB nm).trans (l2 nm hnm), by rw [k6]; exact f2, by rw [k7]; exact w2, by rw [hB]; exact r2, by rw [k4]; simp⟩
 ·rw [if_neg (fun hh => hlt hh.2)] at hfin
  obtain ⟨rfl, rfl⟩ := hfin
  rcases lt2 with h5 | h5
  ·exact absurd h5 hlt
  subst h5
  exact ⟨rfl, g2, LQ.one hs m2', p2, o2, n2, l2, f2, w2, r2, by rw [hs]; simp⟩
end Go.Proofs.YtpecmnaikjbanaaGreatDoor
/- blobs, plain: Drop's growth, a round; what lasts behind a Commit; a crash behind it. -/
namespace Go.Proofs.YtpecmnaikjbanaaGreatDoor
open Go Go.SL
theorem LS.new (room : Nat) : LS ⟨Ab.new room, [], false⟩ (fun _ => False) (fun _ => False) := by
 have hl : ∀ nm f, Ab.lookIn ([] : Nms) nm ≠ some f := fun nm f h => by cases h
 refine ⟨⟨⟨fun st hst => ?_, fun st hst => ?_, by simp [Ab.new], fun st hst => ?_, by simp [Ab.new]⟩, fun d h => h.elim, fun st hst d hd => ?_⟩, fun _ => ⟨fun st hst d => ?_, fun d => rfl⟩⟩
 ·rw [show st = [] from by simpa [Ab.new] using hst]
  exact ⟨fun d f h => absurd h (hl _ _), fun d f h => absurd h (hl _ _)⟩
 ·rw [show st = [] from by simpa [Ab.new] using hst]
  exact fun a b f h => absurd h (hl _ _)
 ·rw [show st = [] from by simpa [Ab.new] using hst]
  exact fun nm f h => absurd h (hl _ _)
 ·rw [show st = [] from by simpa [Ab.new] using hst] at hd
  cases hd
 ·rw [show st = [] from by simpa [Ab.new] using hst]
  exact ⟨rfl, rfl⟩
theorem Runs_last {sp : Stp} : ∀ (ss : List Stp) {A B : Ab}, Runs (ss ++ [sp]) A 0 B → ∃ A', sp A' 0 B
 | [], A, B, h => by
  obtain ⟨e1, A1, h1, hc⟩ := h
  rcases hc with ⟨hne, rfl, _⟩ | ⟨h0, _, rfl⟩
  ·exact absurd rfl hne
  ·exact ⟨A, h0 ▸ h1⟩
 | s :: ss, A, B, h => by
  obtain ⟨e1, A1, h1, hc⟩ := h
  rcases hc with ⟨hne, rfl, _⟩ | ⟨_, h2⟩
  ·exact absurd rfl hne
  ·exact Runs_last ss h2
theorem commit_states {l : List Bl} {s t : Sto} (hb : s.brk = false) (hI : hasF s.A (fileN kI (nameB l)) = false) (hR : CommitS l s 0 t) : t.A.states = [t.A.names] := by
 unfold CommitS at hR
 rw [if_neg (by rw [hb]; simp)] at hR
 split at hR
 ·rename_i h; exact absurd hR.1.symm h
 rw [if_neg (by rw [hI]; simp)] at hR
 split at hR
 ·cases hR.1
 obtain ⟨B, h, rfl⟩ := hR
 rw [moveS, show ∀ a b c d e : Stp, ∀ X : List Stp, X ++ [a, b] ++ [c, d, e] = (X ++ [a, b, c, d]) ++ [e] from fun a b c d e X => by simp] at h
 obtain ⟨A', h1⟩ := Runs_last _ h
 rcases syncNames_cases h1 with ⟨h0, _⟩ | ⟨_, h2, h3, _⟩
 ·exact absurd rfl h0
 ·show B.states = [B.names]
  rw [h3, h2]
theorem StoI.crash {q : Int} {s : Sto} {th mb : Dg → Prop} (h : StoI q s) (hl : LS s th mb) (hs : s.A.states = [s.A.names]) (hb : s.beg = []) (last : Int) (stay : List UInt8) (torn cut : Int) :
  StoI q ⟨s.A.crash last stay torn cut, [], false⟩ ∧ vw (s.A.crash last stay torn cut) = vw s.A ∧ (s.A.crash last stay torn cut).states = [(s.A.crash last stay torn cut).names] ∧ (s.A.crash last stay torn cut).writes = [] ∧ usedS ⟨s.A.crash last stay torn cut, [], false⟩ = usedS s := by
 have hst := crash_pick (A := s.A) (by rw [hs]; simp) last stay torn cut
 have hids := crash_ids s.A last stay torn cut
 obtain ⟨g1, g2⟩ := hl.1.crash last stay torn cut
 have hs2 : (s.A.crash last stay torn cut).states = [(s.A.crash last stay torn cut).names] := rfl
 have hw : (s.A.crash last stay torn cut).writes = [] := rfl
 have hp : (s.A.crash last stay torn cut).plan = [] := rfl
 have ho : (s.A.crash last stay torn cut).off = false := rfl
 have hr : (s.A.crash last stay torn cut).room = s.A.room := rfl
 generalize s.A.crash last stay torn cut = B at hst hids g1 g2 hs2 hw hp ho hr
 rw [hs, List.mem_singleton] at hst
 have hlk : ∀ nm, B.look nm = s.A.look nm := fun nm => by unfold Ab.look; rw [hst]
 obtain ⟨n1, n2, n3⟩ := hl.1.names
 have hcl : ∀ nm f, s.A.look nm = some f → Cl s.A f := fun nm f hf => by
  rcases h.kd nm (s.A.now f) (by unfold vw; rw [hf]; rfl) with ⟨d, y, _, hy, _⟩ | ⟨d, rfl, _⟩ | ⟨d, l, rfl, _⟩
  ·rw [hb] at hy; cases hy
  ·exact (n1.b d f hf).1
  ·exact (n1.i d f hf).1
 have hv : vw B = vw s.A := by
  funext nm
  unfold vw
  rw [hlk]
  cases hf : s.A.look nm with
  | none => rfl
  | some f =>
   have := g2 nm f (by rw [hst]; exact hf) (hcl nm f hf)
   show some (B.now f) = some (s.A.now f)
   rw [now_file this]
 have hha : HA B := ⟨hp, ho, by rw [hst]; exact h.ha.keys, by rw [hst]; exact h.ha.own, by rw [hids]; exact h.ha.ids, by rw [hst, hids]; exact h.ha.known⟩
 have hu : usedS ⟨B, [], false⟩ = usedS s := by
  unfold usedS
  rw [hb]
  show ((usedF B : Nat) : Int) + _ = _
  rw [usedF_same h.ha hha hv]
 refine ⟨⟨hha, rfl, List.nodup_nil, fun x hx => (by cases hx), fun d y hy => (by cases hy), fun nm c hc => ?_, by rw [hu]; exact h.quota, hr.trans h.room⟩, hv, hs2, hw, hu⟩
 have hc' : vw B nm = some c := hc
 rw [hv] at hc'
 rcases h.kd nm c hc' with ⟨d, y, _, hy, _⟩ | hB | ⟨d, l, h1, h2, h3, h4, h5⟩
 ·rw [hb] at hy; cases hy
 ·exact .inr (.inl hB)
 ·refine .inr (.inr ⟨d, l, h1, h2, h3, h4, fun y hy => ?_⟩)
  show (vw B (fBd y.d)).isSome = true
  rw [hv]; exact h5 y hy
theorem usedS_nil {A : Ab} {brk : Bool} (h : HA A) (hv : ∀ n, vw A n = none) : usedS ⟨A, [], brk⟩ = 0 := by
 have hk : keysA A = [] := by
  rw [List.eq_nil_iff_forall_not_mem]
  intro n hn
  have := (mem_keys h n).1 hn
  rw [hv n] at this
  cases this
 unfold usedS
 rw [usedF_tot h, hk]
 rfl
end Go.Proofs.YtpecmnaikjbanaaGreatDoor
/- blobs, plain: pieces put in, in any order. -/
namespace Go.Proofs.YtpecmnaikjbanaaGreatDoor
open Go Go.SL
theorem wroteL_in (c : List UInt8) (a : Nat) (b : List UInt8) (j : Nat) (h1 : a ≤ j) (h2 : j < a + b.length) : (wroteL c a b)[j]? = b[j - a]? := by
 unfold wroteL
 have hl : ((c ++ List.replicate (a + b.length - c.length) (0 : UInt8)).take a).length = a := by rw [List.length_take, List.length_append, List.length_replicate]; omega
 simp only
 rw [List.append_assoc, List.getElem?_append_right (by rw [hl]; exact h1), hl, List.getElem?_append_left (by omega)]
theorem wroteL_out {c : List UInt8} {a : Nat} {b : List UInt8} {j : Nat} {v : UInt8} (hc : c[j]? = some v) (h : j < a ∨ a + b.length ≤ j) : (wroteL c a b)[j]? = some v := by
 unfold wroteL
 have hj := (List.getElem?_eq_some_iff.1 hc).1
 have hl : ((c ++ List.replicate (a + b.length - c.length) (0 : UInt8)).take a).length = a := by rw [List.length_take, List.length_append, List.length_replicate]; omega
 simp only
 rcases h with h | h
 ·rw [List.append_assoc, List.getElem?_append_left (by rw [hl]; exact h), List.getElem?_take, if_pos h, List.getElem?_append_left hj]
  exact hc
 ·rw [List.getElem?_append_right (by rw [List.length_append, hl]; exact h), List.getElem?_drop, List.length_append, hl]
  rw [show a + b.length + (j - (a + b.length)) = j from by omega, List.getElem?_append_left hj]
  exact hc
structure Cov (x : Bl) (w c : List UInt8) (P : Int → Prop) : Prop where
 len : c.length ≤ w.length
 has : ∀ k, P k → ∀ a n, spanB x k = some (a, n) → ∀ j : Nat, a ≤ j → (j : Int) < a + n → c[j]? = w[j]?
theorem Cov.nil (x : Bl) (w : List UInt8) : Cov x w [] (fun _ => False) := ⟨Nat.zero_le _, fun k h => h.elim⟩
theorem span_in {x : Bl} {k a n : Int} (h : spanB x k = some (a, n)) : 0 ≤ a ∧ 1 ≤ n ∧ a + n ≤ x.size ∧ 0 ≤ k ∧ k < countB x ∧ a = k * x.piece ∧ n = min x.piece (x.size - a) ∧ rightB x = true := by
 unfold spanB at h
 split at h
 ·cases h
 rename_i hlt
 obtain ⟨hr, h0, h1⟩ := span_lt (x := x) (i := k) (by omega) (by omega)
 injection h with h
 injection h with ha hn
 have hrs := hr
 simp only [rightB, decide_eq_true_eq] at hrs
 exact ⟨by omega, by omega, by omega, by omega, by omega, ha.symm, by rw [← hn, ← ha], hr⟩
theorem Cov.put {x : Bl} {w c : List UInt8} {P : Int → Prop} (h : Cov x w c P) (hw : (w.length : Int) = x.size) {i a n : Int} (hsp : spanB x i = some (a, n)) :
  Cov x w (wroteL c a.toNat ((w.drop a.toNat).take n.toNat)) (fun k => P k ∨ k = i) := by
 obtain ⟨h0, h1, h2, h3, h4, h5, h6, hr⟩ := span_in hsp
 have hbl : ((w.drop a.toNat).take n.toNat).length = n.toNat := by rw [List.length_take, List.length_drop]; omega
 refine ⟨by rw [wroteL_len, hbl]; have := h.len; omega, fun k hk a' n' hs j hj1 hj2 => ?_⟩
 obtain ⟨g0, g1, g2, g3, g4, g5, g6, _⟩ := span_in hs
 by_cases hin : a ≤ j ∧ (j : Int) < a + n
 ·rw [wroteL_in _ _ _ _ (by omega) (by rw [hbl]; omega), List.getElem?_take, if_pos (by omega), List.getElem?_drop]
  congr 1
  omega
 ·rcases hk with hk | rfl
  ·have hc := h.has k hk a' n' hs j hj1 hj2
   have hwj : j < w.length := by omega
   rw [List.getElem?_eq_getElem hwj] at hc ⊢
   exact wroteL_out hc (by rw [hbl]; omega)
  ·rw [hsp] at hs
   injection hs with hs
   injection hs with e1 e2
   omega
theorem Cov.full {x : Bl} {w c : List UInt8} {P : Int → Prop} (h : Cov x w c P) (hw : (w.length : Int) = x.size) (hr : rightB x = true) (hP : ∀ k, 0 ≤ k → k < countB x → P k) : c = w := by
 have hrs := hr
 simp only [rightB, decide_eq_true_eq] at hrs
 apply List.ext_getElem?
 intro j
 rcases Nat.lt_or_ge j w.length with hj | hj
 ·obtain ⟨k, hk⟩ : ∃ k, k = (j : Int) / x.piece := ⟨_, rfl⟩
  have e1 := Int.mul_ediv_add_emod (j : Int) x.piece
  have e2 := Int.emod_nonneg (j : Int) (b := x.piece) (by omega)
  have e3 := Int.emod_lt_of_pos (j : Int) (b := x.piece) (by omega)
  rw [← hk, Int.mul_comm] at e1
  have hk0 : 0 ≤ k := by rw [hk]; exact Int.ediv_nonneg (by omega) (by omega)
  have hkc : k < countB x := by
   unfold countB
   rw [if_pos hr]
   have := (Int.le_ediv_iff_mul_le (a := k + 1) (b := x.size + x.piece - 1) (c := x.piece) (by omega)).2 (by rw [Int.add_mul, Int.one_mul]; omega)
   omega
  have hsp : spanB x k = some (k * x.piece, min x.piece (x.size - k * x.piece)) := by unfold spanB; rw [if_neg (by omega)]
  exact h.has k (hP k hk0 hkc) _ _ hsp j (by omega) (by omega)
 ·rw [List.getElem?_eq_none hj, List.getElem?_eq_none (by have := h.len; omega)]
structure PutI (q : Int) (s0 : Sto) (x : Bl) (w : List UInt8) (P : Int → Prop) (u : Sto) : Prop where
 si : StoI q u
 beg : u.beg = s0.beg ++ [(x.d, x)]
 opn : begL u.beg x.d = some x
 vw : ∃ c, vw u.A = setV (vw s0.A) (fSd x.d) (some c) ∧ Cov x w c P
 len : u.A.names.length ≤ s0.A.names.length + 1
 used : usedS u = usedS s0 + x.size
theorem PutI.begin {q : Int} {s u : Sto} {x : Bl} {w : List UInt8} {e : Nat} (h : StoI q s) (hl : s.A.names.length < 200) (hr : rightB x = true) (hb : begL s.beg x.d = none) (hB : Proofs.YtpecmnaikjbanaaGreatDoor.vw s.A (fBd x.d) = none) (hq : usedS s + x.size ≤ q) (hR : BeginR q x s e u) :
  e = 0 ∧ PutI q s x w (fun _ => False) u := by
 have hS0 : Proofs.YtpecmnaikjbanaaGreatDoor.vw s.A (fSd x.d) = none := by
  cases hx : Proofs.YtpecmnaikjbanaaGreatDoor.vw s.A (fSd x.d) with
  | none => rfl
  | some c =>
   obtain ⟨y, hy, _⟩ := h.isS hx
   rw [hb] at hy; cases hy
 obtain ⟨rfl, -⟩ := Begin_ok h.ha h.brk hr hb hB hq hS0 hl hR
 obtain ⟨h1, h2, h3, ⟨_, h4, h5, h6⟩ | ⟨h4, _⟩⟩ := h.begin hl hR
 ·exact ⟨rfl, h1, h5, by rw [h5, begL_add _ _ _ hb, if_pos rfl], ⟨[], h6, Cov.nil x w⟩, h2, h4⟩
 ·exact absurd rfl h4
theorem PutI.put {q : Int} {s u u' : Sto} {x : Bl} {w : List UInt8} {P : Int → Prop} {i a n : Int} {e : Nat} (h : PutI q s x w P u) (hq : q ≤ 2097152) (hl : u.A.names.length < 200) (hw : (w.length : Int) = x.size) (hsp : spanB x i = some (a, n)) (hR : PutS x i ((w.drop a.toNat).take n.toNat) u e u') :
  e = 0 ∧ PutI q s x w (fun k => P k ∨ k = i) u' := by
 obtain ⟨h0, h1, h2, h3, h4, h5, h6, hr⟩ := span_in hsp
 have hrs := hr
 simp only [rightB, decide_eq_true_eq] at hrs
 have hbl : ((w.drop a.toNat).take n.toNat).length = n.toNat := by rw [List.length_take, List.length_drop]; omega
 obtain ⟨c, hv, hc⟩ := h.vw
 have hus := h.si.used
 have hqs := h.si.quota
 have hrm := h.si.room
 obtain ⟨k1, k2, k3, k4, k5⟩ := h.si.put hq hl hR
 obtain ⟨rfl, -, -, -, v1, -⟩ := Put_ok h.si.ha h.si.brk h.opn hsp (by rw [hbl]; omega) (c := c) (by rw [hv]; exact setV_at _ _ _) (by rw [hbl]; omega) (by rw [hbl]; omega) hR
 have hv1 : Proofs.YtpecmnaikjbanaaGreatDoor.vw u'.A = setV (Proofs.YtpecmnaikjbanaaGreatDoor.vw u.A) (fSd x.d) (some (wroteL c a.toNat ((w.drop a.toNat).take n.toNat))) := funext v1
 refine ⟨rfl, k1, k3.trans h.beg, by rw [k3]; exact h.opn, ⟨_, by rw [hv1, hv, setV_set], hc.put hw hsp⟩, by rw [k2]; exact h.len, k4.trans h.used⟩
theorem PutI.done {q : Int} {s u t : Sto} {x : Bl} {w : List UInt8} {P : Int → Prop} {e : Nat} (h : PutI q s x w P u) (h0 : StoI q s) (hb : begL s.beg x.d = none) (hB : Proofs.YtpecmnaikjbanaaGreatDoor.vw s.A (fBd x.d) = none) (hw : (w.length : Int) = x.size) (hr : rightB x = true) (hP : ∀ k, 0 ≤ k → k < countB x → P k) (hwh : wholeB x w = true) (hR : InstallS x u e t) :
  e = 0 ∧ StoI q t ∧ t.beg = s.beg ∧ Proofs.YtpecmnaikjbanaaGreatDoor.vw t.A = setV (Proofs.YtpecmnaikjbanaaGreatDoor.vw s.A) (fBd x.d) (some w) ∧ t.A.names.length ≤ s.A.names.length + 1 ∧ usedS t ≤ usedS s + x.size := by
 have hS0 : Proofs.YtpecmnaikjbanaaGreatDoor.vw s.A (fSd x.d) = none := by
  cases hx : Proofs.YtpecmnaikjbanaaGreatDoor.vw s.A (fSd x.d) with
  | none => rfl
  | some c =>
   obtain ⟨y, hy, _⟩ := h0.isS hx
   rw [hb] at hy; cases hy
 obtain ⟨c, hv, hc⟩ := h.vw
 obtain rfl := hc.full hw hr hP
 have hno : Proofs.YtpecmnaikjbanaaGreatDoor.vw u.A (fBd x.d) = none := by rw [hv, setV_ne _ _ (fun e => fSd_ne_fBd _ _ e.symm)]; exact hB
 obtain ⟨k1, k2, k3, k4⟩ := h.si.install hR
 obtain ⟨rfl, -, -, c1, v1, -⟩ := Install_ok h.si.ha h.si.brk h.opn (by rw [hv]; exact setV_at _ _ _) hno hwh hR
 have hv1 : Proofs.YtpecmnaikjbanaaGreatDoor.vw t.A = setV (setV (Proofs.YtpecmnaikjbanaaGreatDoor.vw u.A) (fSd x.d) none) (fBd x.d) (some c) := funext v1
 refine ⟨rfl, k1, ?_, ?_, by have := h.len; omega, by have := h.used; omega⟩
 ·rw [c1, h.beg]
  have h1 : delB (s.beg ++ [(x.d, x)]) x.d = delB s.beg x.d := by unfold delB; rw [List.filter_append]; simp
  rw [h1, delB_none (beg_key hb)]
 ·rw [hv1, hv, setV_set, setV_eq hS0]
end Go.Proofs.YtpecmnaikjbanaaGreatDoor
/- blobs, part m: Read, Images. -/
namespace Go.Proofs.YtpecmnaikjbanaaGreatDoor
open Go Go.SL
attribute [local irreducible] J K Ctr Ends pts slc mapR mapI sbRow stock arrS loopP CtrY Sha.chunks Sha.chunk Sha.rounds Sha.sched sumL taggedL GI leafL diskA
def readS (A : Ab) (d : Dg) (at_ n : Int) : List UInt8 × Nat := if hasF A (fileN kB d) then A.read (fileN kB d) at_ n else ([], 4)
set_option maxRecDepth 20000 in
theorem ReadS_any (bs bd : Nat) (q : Int) (mb : Nat) (brk : Bool) (A : Ab) (d : Dg) (at_ n : Int) : Ctr Tryz.prog 26 [ptr bs, dV d, .int .i64 at_, .int .i64 n] [pts bs (cl (stC bd q mb brk) 92), diskA bd A]
  (fun r H => ∃ rv, r = .tuple #[rv, .int .i64 ((readS A d at_ n).2 : Int)] ∧ H = [slc 5 1 rv (readS A d at_ n).1.length (bV (readS A d at_ n).1), pts bs (cl (stC bd q mb brk) 92), diskA bd A]) := by
 have hf := file_any kB d (by decide)
 have hhas := Has_any bs bd q mb brk A d
 unfold dV at hf hhas ⊢
 refine Ctr.enter Tryz.func26 (by kernel_rfl) rfl Tryz.ntmps26 rfl rfl ?_
 intro G F R hE
 refine K_regionA rfl ?_
 refine J_box rfl rfl (fun _ _ _ => trivial) ?_
 intro b5
 refine go ?_
 refine J_loadArr (U := tab) (l := dC d) 0 rfl rfl rfl rfl rfl rfl ?_
 ((try refine go ?_); first | refine J_callE rfl rfl rfl rfl (hhas) entA ?_ (fun _ _ _ _ _ => trivial) | refine J_call0E rfl rfl rfl (hhas) entA ?_ (fun _ _ _ _ _ => trivial))
 rintro _ _ ⟨rfl, rfl⟩
 cases hh : hasF A (fileN kB d) with
 | false =>
  have h1 : readS A d at_ n = ([], 4) := by unfold readS; rw [hh]; rfl
  rw [h1] at hE
  refine go ?_
  refine K_ent (slc_lift 5 1 none _) ?_
  (first | refine K_return hE Tryz.func26 rfl _ rfl ⟨_, rfl, rfl⟩ entA | refine K_fallEnd hE Tryz.func26 rfl _ rfl ⟨_, rfl, rfl⟩ entA)
 | true =>
  have h1 : readS A d at_ n = A.read (fileN kB d) at_ n := by unfold readS; rw [hh]; rfl
  rw [h1] at hE
  have hrd := Read_dA bd A (fileN kB d) at_ n
  refine go ?_
  refine K_drawA (fun w => Sat G w ([pts b5 (cl (dC d) 30), pts bs (cl (stC bd q mb brk) 92)])) (.st 0 (.st 1 (.st 2 (.st 3 (.st 4 (.st 6 (.st 7 (.act 5 (.act 8 (.st 9 (.st 10 (.st 11 (.st 12 .nil))))))))))))) rfl (by kernel_rfl) (by kernel_rfl) (by kernel_rfl) (fun w hw => hw.ent entA) ?_
  refine go ?_
  refine J_loadArrS (U := tab) (l := dC d) 0 rfl rfl rfl rfl rfl rfl ?_
  refine go ?_
  (first | refine J_callE rfl rfl rfl rfl (hf) entA ?_ (fun _ _ w hp hw => by obtain ⟨rfl, rfl⟩ := hp; exact hw.ent entA) | refine J_call0E rfl rfl rfl (hf) entA ?_ (fun _ _ w hp hw => by obtain ⟨rfl, rfl⟩ := hp; exact hw.ent entA))
  rintro _ _ ⟨rfl, rfl⟩
  refine go ?_
  (first | refine J_callE rfl rfl rfl rfl (hrd) entA ?_ (fun _ _ w hp hw => by obtain ⟨r, rfl, rfl⟩ := hp; exact hw.ent entA) | refine J_call0E rfl rfl rfl (hrd) entA ?_ (fun _ _ w hp hw => by obtain ⟨r, rfl, rfl⟩ := hp; exact hw.ent entA))
  rintro _ _ ⟨r, rfl, rfl⟩
  refine go ?_
  (first | refine K_return hE Tryz.func26 rfl _ rfl ⟨_, rfl, rfl⟩ entA | refine K_fallEnd hE Tryz.func26 rfl _ rfl ⟨_, rfl, rfl⟩ entA)
set_option maxRecDepth 20000 in
set_option maxHeartbeats 1000000 in
theorem Images_any (bs bd : Nat) (q : Int) (mb : Nat) (brk : Bool) (A : Ab) : Ctr Tryz.prog 27 [ptr bs] [pts bs (cl (stC bd q mb brk) 92), diskA bd A]
  (fun r H => H = [slc 30 32 r (imagesF A).length ((imagesF A).flatMap dC), pts bs (cl (stC bd q mb brk) 92), diskA bd A]) := by
 refine Ctr.enter Tryz.func27 (by kernel_rfl) rfl Tryz.ntmps27 rfl rfl ?_
 intro G F R hE
 refine K_diskA (bd := bd) (A := A) 1 rfl ?_
 intro hdk
 have hn200 := namesF_len hdk
 obtain ⟨l, hl⟩ : ∃ l, l = namesF A := ⟨_, rfl⟩
 have hfin : imagesF A = l.filterMap (hashN kI) := by unfold imagesF; rw [hl]
 have hnm := Names_dB bd A
 rw [← hl] at hnm hn200
 rw [hfin] at hE
 refine go ?_
 ((try refine go ?_); first | refine J_callE rfl rfl rfl rfl (hnm) entA ?_ (fun _ _ _ _ _ => trivial) | refine J_call0E rfl rfl rfl (hnm) entA ?_ (fun _ _ _ _ _ => trivial))
 rintro r _ rfl
 (first | refine J_shape 0 rfl ?_ | refine K_shape 0 rfl ?_)
 rintro ra rc rfl
 refine J_slcVw 0 rfl ?_
 intro hvw
 refine go ?_
 refine K_ent (slc_lift 30 32 none _) ?_
 refine K_loop (fun y : Nat × List Dg × Option Addr × Nat => y.1 ≤ l.length ∧ y.2.1 = (l.take y.1).filterMap (hashN kI)) (fun y => l.length - y.1)
  (fun y => [(0, ptr bs), (3, .slice y.2.2.1 y.2.1.length y.2.2.2), (12, .slice ra l.length rc), (13, .int .i64 (l.length : Int)), (14, .int .i64 (y.1 : Int))])
  (fun y => slc 30 32 (.slice y.2.2.1 y.2.1.length y.2.2.2) y.2.1.length (y.2.1.flatMap dC) :: slc 9 1 (.slice ra l.length rc) l.length (l.map Value.string) :: pts bs (cl (stC bd q mb brk) 92) :: diskA bd A :: F) (0, [], none, 0) ⟨Nat.zero_le _, rfl⟩ rfl (by repeat (first | exact keep_nil | refine keep_cons rfl ?_)) entA ?_
 rintro ⟨i, acc, xa, xc⟩ ⟨hi, hacc⟩ ih
 simp only at hi hacc
 have hal : acc.length ≤ 200 := by
  have h1 := List.length_filterMap_le (hashN kI) (l.take i)
  rw [← hacc, List.length_take] at h1
  omega
 dsimp only
 refine go ?_
 refine K_condP rfl rfl ?_ ?_
 ·intro hlt
  have hi' : i < l.length := by omega
  obtain ⟨nm, hx⟩ : ∃ x, l[i]? = some x := ⟨l[i], by simp⟩
  have hstep : (l.take (i + 1)).filterMap (hashN kI) = acc ++ (match hashN kI nm with | none => [] | some d => [d]) := by
   rw [List.take_add_one, hx, List.filterMap_append, hacc]
   congr 1
   cases hh : hashN kI nm <;> simp [hh]
  have hcell : (l.map Value.string)[i]? = some (.string nm) := by rw [List.getElem?_map, hx]; rfl
  obtain ⟨b, o, cap', hsl⟩ := hvw.some (by intro h; rw [h] at hcell; simp at hcell)
  simp only [Value.slice.injEq] at hsl
  obtain ⟨rfl, _, rfl⟩ := hsl
  refine go ?_
  refine J_at (U := tab) i 1 rfl rfl rfl rfl rfl rfl rfl rfl hi' ?_
  refine J_isLoad ?_
  refine J_loadAt (U := tab) 1 (i * 1) rfl rfl rfl hvw rfl (by rw [Nat.mul_one]; exact hcell) rfl rfl ?_
  refine go ?_
  ((try refine go ?_); first | refine J_callE rfl rfl rfl rfl (hash_any kI nm (by decide)) entA ?_ (fun _ _ _ _ _ => trivial) | refine J_call0E rfl rfl rfl (hash_any kI nm (by decide)) entA ?_ (fun _ _ _ _ _ => trivial))
  rintro _ _ ⟨rfl, rfl⟩
  cases hh : hashN kI nm with
  | none =>
   rw [hh] at hstep
   simp only [List.append_nil] at hstep
   simp only [hashV]
   unfold dV
   refine go ?_
   refine J_alloc (U := tab) rfl rfl rfl (fun _ _ _ => trivial) ?_
   intro b9
   refine go ?_
   refine K_again ih (i + 1, acc, xa, xc) rfl ⟨by simp only; omega, hstep.symm⟩ (by simp only; omega) (by repeat (first | exact keep_nil | refine keep_cons rfl ?_)) entA
  | some d =>
   rw [hh] at hstep
   simp only at hstep
   simp only [hashV]
   unfold dV
   refine go ?_
   refine J_alloc (U := tab) rfl rfl rfl (fun _ _ _ => trivial) ?_
   intro b9
   refine go ?_
   refine J_loadArr (U := tab) (l := dC d) 0 rfl rfl rfl rfl rfl rfl ?_
   refine J_buildSlice1 (U := tab) (cs := dC d) rfl rfl rfl rfl rfl rfl rfl rfl rfl (fun _ _ _ => trivial) ?_
   intro row
   refine go ?_
   refine J_append (U := tab) (mm := 1) (news := dC d) 2 0 rfl rfl rfl rfl rfl rfl rfl rfl rfl rfl rfl rfl (Vw.pts rfl) rfl (by rw [dC_bV]; exact bV_one _) (by omega) (by show (_ + 1) * 32 ≤ _; omega) (fun _ => rfl) (fun _ _ _ => trivial) ?_
   intro v1
   rw [show acc.flatMap dC ++ dC d = (acc ++ [d]).flatMap dC from by simp, show acc.length + 1 = (acc ++ [d]).length from by simp]
   (first | refine J_shape 2 rfl ?_ | refine K_shape 2 rfl ?_)
   rintro va2 vc2 rfl
   refine go ?_
   refine K_again ih (i + 1, acc ++ [d], va2, vc2) rfl ⟨by simp only; omega, hstep.symm⟩ (by simp only; omega) (by repeat (first | exact keep_nil | refine keep_cons rfl ?_)) entA
 ·intro hge
  have hie : i = l.length := by omega
  rw [hie, List.take_length] at hacc
  rw [← hacc] at hE
  clear ih
  refine go ?_
  (first | refine K_return hE Tryz.func27 rfl _ rfl rfl entA | refine K_fallEnd hE Tryz.func27 rfl _ rfl rfl entA)
end Go.Proofs.YtpecmnaikjbanaaGreatDoor
/- blobs, part n: Commit. -/
namespace Go.Proofs.YtpecmnaikjbanaaGreatDoor
open Go Go.SL
def GW (A : Ab) (i : Nat) (x : Ab) : Prop := x.states.length ≤ A.states.length + 100 * i ∧ x.writes.length ≤ A.writes.length + 100 * i
theorem GW.zero (A : Ab) : GW A 0 A := ⟨Nat.le_refl _, Nat.le_refl _⟩
theorem GW.next {A x y : Ab} {i : Nat} (h : GW A i x) (g : Grow1 x y) : GW A (i + 1) y := ⟨by have := h.1; have := g.1; omega, by have := h.2; have := g.2; omega⟩
theorem All2.append {α β : Type} {q : α → β → Prop} {l l' : List α} {r r' : List β} (h : All2 q l r) (h' : All2 q l' r') : All2 q (l ++ l') (r ++ r') := by
 refine ⟨by rw [List.length_append, List.length_append, h.1, h'.1], fun i x y hx hy => ?_⟩
 rcases Nat.lt_or_ge i l.length with hi | hi
 ·rw [List.getElem?_append_left hi] at hx
  rw [List.getElem?_append_left (by rw [← h.1]; exact hi)] at hy
  exact h.2 i x y hx hy
 ·rw [List.getElem?_append_right hi] at hx
  rw [List.getElem?_append_right (by rw [← h.1]; exact hi), ← h.1] at hy
  exact h'.2 _ x y hx hy
def StpOk (Y : Ab → HP) (A : Ab) (fv : Value) (sp : Stp) : Prop := ∃ g fi cap, fv = .func (.func g) fi cap ∧ ∀ j, j ≤ 1000 → ∀ y, GW A j y → Ctr Tryz.prog g (fi.toList ++ cap.toList) [Y y] (fun r H => ∃ (e : Nat) (x' : Ab), r = .int .i64 (e : Int) ∧ H = [Y x'] ∧ sp y e x' ∧ (e = 0 → GW A (j + 1) x'))
theorem stpOk_of {Y : Ab → HP} {A : Ab} {g : FuncId} {fi cap : Array Value} {sp : Stp} (hst : A.states.length ≤ 900000000) (hwl : A.writes.length ≤ 900000000) (h : ∀ y : Ab, y.states.length ≤ 1000000000 → y.writes.length ≤ 1000000000 → Ctr Tryz.prog g (fi.toList ++ cap.toList) [Y y] (fun r H => ∃ (e : Nat) (x' : Ab), r = .int .i64 (e : Int) ∧ H = [Y x'] ∧ sp y e x')) (hg : ∀ A e B, sp A e B → Grow1 A B) : StpOk Y A (.func (.func g) fi cap) sp :=
  ⟨g, fi, cap, rfl, fun j hj y hy => (h y (by have := hy.1; omega) (by have := hy.2; omega)).post (by
    rintro r H ⟨e, B, rfl, rfl, h1⟩
    exact ⟨e, B, rfl, rfl, h1, fun _ => hy.next (hg _ _ _ h1)⟩)⟩
attribute [local irreducible] J K Ctr Ends pts slc mapR mapI sbRow stock arrS loopP CtrY Sha.chunks Sha.chunk Sha.rounds Sha.sched sumL taggedL GI leafL diskA
theorem changeA_any (bs bd : Nat) (q : Int) (mb : Nat) (brk : Bool) (Y : HP) (V : HP) (v : Value) (fvs : List Value) (hv : Vw V v fvs.length fvs) (hn : fvs.length ≤ 1000) (ss : List Stp) (A : Ab) (h : All2 (StpOk (stX bs bd q mb brk Y) A) fvs ss) :
  Ctr Tryz.prog 55 [ptr bs, v] [V, stX bs bd q mb brk Y A]
   (fun r H => ∃ (e : Nat) (B : Ab), r = .int .i64 (e : Int) ∧ H = [V, stX bs bd q mb (brk || decide (e ≠ 0)) Y B] ∧ Runs ss A e B) :=
 (changeS_any bs bd q mb brk Y V v fvs hv (by omega) ss h.1.symm (fun i x => i ≤ 1000 → GW A i x) (fun i fv s hi hs => by
  obtain ⟨g, fi, cap, rfl, hc⟩ := h.2 i fv s hi hs
  have hil := (List.getElem?_eq_some_iff.1 hi).1
  refine ⟨g, fi, cap, rfl, fun x hx => (hc i (by omega) x (hx (by omega))).post ?_⟩
  rintro r H ⟨e, B, rfl, rfl, h1, h2⟩
  exact ⟨e, B, rfl, rfl, h1, fun he _ => h2 he⟩) A (fun _ => GW.zero A)).post (by
  rintro r H ⟨e, B, rfl, rfl, h1, _⟩
  exact ⟨e, B, rfl, rfl, h1⟩)
theorem ctr_stXr {f : FuncId} {args : List Value} {bs bd : Nat} {q : Int} {mb : Nat} {brk : Bool} (Zs : List HP) {Xs : List HP} {A : Ab} {p : Nat → Ab → Prop}
  (h : Ctr Tryz.prog f args (pts bs (cl (stC bd q mb brk) 92) :: diskA bd A :: Xs) (fun r H => ∃ (e : Nat) (B : Ab), r = .int .i64 (e : Int) ∧ H = pts bs (cl (stC bd q mb brk) 92) :: diskA bd B :: Xs ∧ p e B)) :
  Ctr Tryz.prog f args [stX bs bd q mb brk (Sep (Xs ++ Zs)) A] (fun r H => ∃ (e : Nat) (B : Ab), r = .int .i64 (e : Int) ∧ H = [stX bs bd q mb brk (Sep (Xs ++ Zs)) B] ∧ p e B) :=
 ctr_stX ((ctr_frame Zs h).post (by
  rintro v H ⟨_, ⟨e, B, rfl, rfl, hp⟩, rfl⟩
  exact ⟨e, B, rfl, rfl, hp⟩))
theorem ctr_stXl {f : FuncId} {args : List Value} {bs bd : Nat} {q : Int} {mb : Nat} {brk : Bool} (Zs : List HP) {Xs : List HP} {A : Ab} {p : Nat → Ab → Prop}
  (h : Ctr Tryz.prog f args (pts bs (cl (stC bd q mb brk) 92) :: diskA bd A :: Xs) (fun r H => ∃ (e : Nat) (B : Ab), r = .int .i64 (e : Int) ∧ H = pts bs (cl (stC bd q mb brk) 92) :: diskA bd B :: Xs ∧ p e B)) :
  Ctr Tryz.prog f args [stX bs bd q mb brk (Sep (Zs ++ Xs)) A] (fun r H => ∃ (e : Nat) (B : Ab), r = .int .i64 (e : Int) ∧ H = [stX bs bd q mb brk (Sep (Zs ++ Xs)) B] ∧ p e B) := by
 have hE : ∀ B, Ent (pts bs (cl (stC bd q mb brk) 92) :: diskA bd B :: (Zs ++ Xs)) (pts bs (cl (stC bd q mb brk) 92) :: diskA bd B :: (Xs ++ Zs)) := fun B => Ent.perm ((List.perm_append_comm.cons _).cons _)
 have hE' : ∀ B, Ent (pts bs (cl (stC bd q mb brk) 92) :: diskA bd B :: (Xs ++ Zs)) (pts bs (cl (stC bd q mb brk) 92) :: diskA bd B :: (Zs ++ Xs)) := fun B => Ent.perm ((List.perm_append_comm.cons _).cons _)
 refine ctr_stX ((ctr_frame Zs h).conv (hE A) ?_)
 rintro v H ⟨_, ⟨e, B, rfl, rfl, hp⟩, rfl⟩
 exact ⟨_, ⟨e, B, rfl, rfl, hp⟩, hE' B⟩
theorem commit1_any (b2 bs bd : Nat) (q : Int) (mb : Nat) (brk : Bool) (A : Ab) (y : Bl) :
  Ctr Tryz.prog 72 [blV y, ptr b2] [Sep [pts b2 (cl [ptr bs] 35), pts bs (cl (stC bd q mb brk) 92), diskA bd A] ]
  (fun r H => r = .bool (!hasF A (fB y)) ∧ H = [Sep [pts b2 (cl [ptr bs] 35), pts bs (cl (stC bd q mb brk) 92), diskA bd A] ]) := by
 have hw := Has_any bs bd q mb brk A y.d
 unfold dV at hw
 unfold blV
 refine Ctr.enter Tryz.func72 (by kernel_rfl) rfl Tryz.ntmps72 rfl rfl ?_
 intro G F R hE
 refine K_regionA rfl ?_
 refine J_box rfl rfl (fun _ _ _ => trivial) ?_
 intro b0
 refine J_ent (Ent.trans (Ent.pick [1] rfl) (Ent.unsep [_, _, _] _)) ?_
 refine go ?_
 refine J_loadAgg (U := tab) 3 rfl rfl rfl rfl rfl rfl ?_
 ((try refine go ?_); first | refine J_callE rfl rfl rfl rfl (hw) entA ?_ (fun _ _ _ _ _ => trivial) | refine J_call0E rfl rfl rfl (hw) entA ?_ (fun _ _ _ _ _ => trivial))
 rintro _ _ ⟨rfl, rfl⟩
 refine go ?_
 refine K_ent (Ent.trans (Ent.pick [2, 0, 1] rfl) (Ent.resep [_, _, _] _)) ?_
 (first | refine K_return hE Tryz.func72 rfl _ rfl ⟨rfl, rfl⟩ entA | refine K_fallEnd hE Tryz.func72 rfl _ rfl ⟨rfl, rfl⟩ entA)
theorem commit2_any (bs bd b2 b7 : Nat) (q : Int) (mb : Nat) (brk : Bool) (n : ByteArray) (A : Ab) (hst : A.states.length ≤ 1000000000) :
  Ctr Tryz.prog 75 [ptr b2, ptr b7] (pts bs (cl (stC bd q mb brk) 92) :: diskA bd A :: [pts b2 (cl [ptr bs] 35), pts b7 (cl [.string n] 9)])
   (fun r H => ∃ (e : Nat) (B : Ab), r = .int .i64 (e : Int) ∧ H = pts bs (cl (stC bd q mb brk) 92) :: diskA bd B :: [pts b2 (cl [ptr bs] 35), pts b7 (cl [.string n] 9)] ∧ stRemove n A e B) := by
 refine Ctr.enter Tryz.func75 (by kernel_rfl) rfl Tryz.ntmps75 rfl rfl ?_
 intro G F R hE
 refine go ?_
 refine K_drawA (fun w => Sat G w ([pts bs (cl (stC bd q mb brk) 92), pts b2 (cl [ptr bs] 35), pts b7 (cl [.string n] 9)])) (.st 0 (.st 1 (.st 2 (.st 3 (.st 4 (.act 5 (.st 6 .nil))))))) rfl (by kernel_rfl) (by kernel_rfl) (by kernel_rfl) (fun w hw => hw.ent entA) ?_
 refine go ?_
 (first | refine J_callE rfl rfl rfl rfl (Remove_dA bd A n hst) entA ?_ (fun _ _ w hp hw => by obtain ⟨rfl, rfl⟩ := hp; exact hw.ent entA) | refine J_call0E rfl rfl rfl (Remove_dA bd A n hst) entA ?_ (fun _ _ w hp hw => by obtain ⟨rfl, rfl⟩ := hp; exact hw.ent entA))
 rintro _ _ ⟨rfl, rfl⟩
 refine go ?_
 (first | refine K_return hE Tryz.func75 rfl _ rfl ⟨_, _, rfl, rfl, rfl⟩ entA | refine K_fallEnd hE Tryz.func75 rfl _ rfl ⟨_, _, rfl, rfl, rfl⟩ entA)
theorem commit3_any (bs bd b2 b7 : Nat) (q : Int) (mb : Nat) (brk : Bool) (n : ByteArray) (A : Ab) (hst : A.states.length ≤ 1000000000) :
  Ctr Tryz.prog 76 [ptr b2, ptr b7] (pts bs (cl (stC bd q mb brk) 92) :: diskA bd A :: [pts b2 (cl [ptr bs] 35), pts b7 (cl [.string n] 9)])
   (fun r H => ∃ (e : Nat) (B : Ab), r = .int .i64 (e : Int) ∧ H = pts bs (cl (stC bd q mb brk) 92) :: diskA bd B :: [pts b2 (cl [ptr bs] 35), pts b7 (cl [.string n] 9)] ∧ stCreate n A e B) := by
 refine Ctr.enter Tryz.func76 (by kernel_rfl) rfl Tryz.ntmps76 rfl rfl ?_
 intro G F R hE
 refine go ?_
 refine K_drawA (fun w => Sat G w ([pts bs (cl (stC bd q mb brk) 92), pts b2 (cl [ptr bs] 35), pts b7 (cl [.string n] 9)])) (.st 0 (.st 1 (.st 2 (.st 3 (.st 4 (.act 5 (.st 6 .nil))))))) rfl (by kernel_rfl) (by kernel_rfl) (by kernel_rfl) (fun w hw => hw.ent entA) ?_
 refine go ?_
 (first | refine J_callE rfl rfl rfl rfl (Create_dA bd A n hst) entA ?_ (fun _ _ w hp hw => by obtain ⟨f, hf, rfl, rfl⟩ := hp; exact hw.ent entA) | refine J_call0E rfl rfl rfl (Create_dA bd A n hst) entA ?_ (fun _ _ w hp hw => by obtain ⟨f, hf, rfl, rfl⟩ := hp; exact hw.ent entA))
 rintro _ _ ⟨f, hf, rfl, rfl⟩
 refine go ?_
 (first | refine K_return hE Tryz.func76 rfl _ rfl ⟨_, _, rfl, rfl, ⟨f, hf, rfl⟩⟩ entA | refine K_fallEnd hE Tryz.func76 rfl _ rfl ⟨_, _, rfl, rfl, ⟨f, hf, rfl⟩⟩ entA)
theorem commit4_any (bs bd b2 b7 b9 : Nat) (q : Int) (mb : Nat) (brk : Bool) (n : ByteArray) (X : HP) (bv : Value) (b : List UInt8) (hv : Vw X bv b.length (bV b)) (A : Ab) (hwl : A.writes.length ≤ 1000000000) (hbl : b.length ≤ 1000000000) :
  Ctr Tryz.prog 77 [ptr b2, ptr b7, ptr b9] (pts bs (cl (stC bd q mb brk) 92) :: diskA bd A :: [pts b2 (cl [ptr bs] 35), pts b7 (cl [.string n] 9), pts b9 (cl [bv] 22), X])
   (fun r H => ∃ (e : Nat) (B : Ab), r = .int .i64 (e : Int) ∧ H = pts bs (cl (stC bd q mb brk) 92) :: diskA bd B :: [pts b2 (cl [ptr bs] 35), pts b7 (cl [.string n] 9), pts b9 (cl [bv] 22), X] ∧ stWrite n 0 b A e B) := by
 obtain ⟨a, c, rfl⟩ := hv.shape
 have hw := Write_dA bd A n 0 X _ b hv hwl hbl ⟨by omega, by omega⟩
 refine Ctr.enter Tryz.func77 (by kernel_rfl) rfl Tryz.ntmps77 rfl rfl ?_
 intro G F R hE
 refine go ?_
 refine K_drawA (fun w => Sat G w ([pts bs (cl (stC bd q mb brk) 92), pts b2 (cl [ptr bs] 35), pts b7 (cl [.string n] 9), pts b9 (cl [.slice a b.length c] 22)])) (.st 0 (.st 1 (.st 2 (.st 3 (.st 4 (.st 5 (.act 6 (.st 7 .nil)))))))) rfl (by kernel_rfl) (by kernel_rfl) (by kernel_rfl) (fun w hw => hw.ent entA) ?_
 refine go ?_
 refine J_loadH (U := tab) 3 rfl rfl rfl rfl rfl rfl ?_
 refine go ?_
 (first | refine J_callE rfl rfl rfl rfl (hw) entA ?_ (fun _ _ w hp hw => by obtain ⟨rfl, rfl⟩ := hp; exact hw.ent entA) | refine J_call0E rfl rfl rfl (hw) entA ?_ (fun _ _ w hp hw => by obtain ⟨rfl, rfl⟩ := hp; exact hw.ent entA))
 rintro _ _ ⟨rfl, rfl⟩
 refine go ?_
 (first | refine K_return hE Tryz.func77 rfl _ rfl ⟨_, _, rfl, rfl, rfl⟩ entA | refine K_fallEnd hE Tryz.func77 rfl _ rfl ⟨_, _, rfl, rfl, rfl⟩ entA)
def cmX (bs b2 b9 b11 c3 c4 c5 : Nat) (n o : ByteArray) (bv : Value) (b : List UInt8) : List HP := [pts b2 (cl [ptr bs] 35), pts b11 (cl [.string n] 9), pts b9 (cl [bv] 22), slc 5 1 bv b.length (bV b)] ++ mvX bs c3 c4 c5 n o
def cmF (has : Bool) (b2 b11 : Nat) : List Value := if has then [.func (.func 75) #[] #[ptr b2, ptr b11] ] else []
def cmG (b2 b9 b11 : Nat) : List Value := [.func (.func 76) #[] #[ptr b2, ptr b11], .func (.func 77) #[] #[ptr b2, ptr b11, ptr b9] ]
def cmS (has : Bool) (n : ByteArray) : List Stp := if has then [stRemove n] else []
theorem cm_steps (has : Bool) (bs bd : Nat) (q : Int) (mb : Nat) (brk : Bool) (b2 b9 b11 c3 c4 c5 : Nat) (n o : ByteArray) (bv : Value) (b : List UInt8) (hv : Vw (slc 5 1 bv b.length (bV b)) bv b.length (bV b)) (hbl : b.length ≤ 1000000000) (A : Ab) (hst : A.states.length ≤ 900000000) (hwl : A.writes.length ≤ 900000000) :
  All2 (StpOk (stX bs bd q mb brk (Sep (cmX bs b2 b9 b11 c3 c4 c5 n o bv b))) A) (cmF has b2 b11 ++ cmG b2 b9 b11 ++ mvF bd c3 c4 c5) (cmS has n ++ [stCreate n, stWrite n 0 b] ++ moveS n o) := by
 refine All2.append (All2.append ?_ ?_) ?_
 ·cases has with
  | false => exact All2.nil
  | true =>
   refine All2.one (stpOk_of hst hwl (fun y h1 h2 => ?_) (fun _ _ _ h => grow_stRemove h))
   exact ctr_stXr (Xs := [pts b2 (cl [ptr bs] 35), pts b11 (cl [.string n] 9)]) ([pts b9 (cl [bv] 22), slc 5 1 bv b.length (bV b)] ++ mvX bs c3 c4 c5 n o) (p := stRemove n y) (commit2_any bs bd b2 b11 q mb brk n y h1)
 ·refine All2.cons (All2.one ?_) ?_
  ·refine stpOk_of hst hwl (fun y h1 h2 => ?_) (fun _ _ _ h => grow_stWrite h)
   exact ctr_stXr (Xs := [pts b2 (cl [ptr bs] 35), pts b11 (cl [.string n] 9), pts b9 (cl [bv] 22), slc 5 1 bv b.length (bV b)]) (mvX bs c3 c4 c5 n o) (p := stWrite n 0 b y) (commit4_any bs bd b2 b11 b9 q mb brk n _ bv b hv y h2 hbl)
  ·refine stpOk_of hst hwl (fun y h1 h2 => ?_) (fun _ _ _ h => grow_stCreate h)
   exact ctr_stXr (Xs := [pts b2 (cl [ptr bs] 35), pts b11 (cl [.string n] 9)]) ([pts b9 (cl [bv] 22), slc 5 1 bv b.length (bV b)] ++ mvX bs c3 c4 c5 n o) (p := stCreate n y) (commit3_any bs bd b2 b11 q mb brk n y h1)
 ·refine All2.cons (All2.cons (All2.one ?_) ?_) ?_
  ·refine stpOk_of hst hwl (fun y h1 h2 => ?_) (fun _ _ _ h => grow_stSyncNames h)
   exact names_X bs bd q mb brk (cmX bs b2 b9 b11 c3 c4 c5 n o bv b) y
  ·refine stpOk_of hst hwl (fun y h1 h2 => ?_) (fun _ _ _ h => grow_stRename h)
   exact ctr_stXl [pts b2 (cl [ptr bs] 35), pts b11 (cl [.string n] 9), pts b9 (cl [bv] 22), slc 5 1 bv b.length (bV b)] (Xs := mvX bs c3 c4 c5 n o) (p := stRename n o y) (move2_any bs bd c3 c4 c5 q mb brk n o y h1)
  ·refine stpOk_of hst hwl (fun y h1 h2 => ?_) (fun _ _ _ h => grow_stSync h)
   have h0 := ctr_frame [pts c5 (cl [.string o] 9)] (move1_any bs bd c3 c4 q mb brk n y h2)
   refine ctr_stXl [pts b2 (cl [ptr bs] 35), pts b11 (cl [.string n] 9), pts b9 (cl [bv] 22), slc 5 1 bv b.length (bV b)] (Xs := mvX bs c3 c4 c5 n o) (p := stSync n y) (h0.post ?_)
   rintro r H ⟨_, ⟨e, B, rfl, rfl, h3⟩, rfl⟩
   exact ⟨e, B, rfl, rfl, h3⟩
end Go.Proofs.YtpecmnaikjbanaaGreatDoor
/- blobs, part o: Commit's walk. -/
namespace Go.Proofs.YtpecmnaikjbanaaGreatDoor
open Go Go.SL
attribute [local irreducible] J K Ctr Ends pts slc mapR mapI sbRow stock arrS loopP CtrY Sha.chunks Sha.chunk Sha.rounds Sha.sched sumL taggedL GI leafL diskA
theorem cmF_one (has : Bool) (b2 b11 : Nat) : ∀ v ∈ cmF has b2 b11, v.oneCell' = true := by
 cases has <;> simp [cmF, Value.oneCell']
theorem mvF_one (bd b3 b4 b5 : Nat) : ∀ v ∈ mvF bd b3 b4 b5, v.oneCell' = true := by simp [mvF, Value.oneCell']
theorem cmG_one (b2 b9 b11 : Nat) : ∀ v ∈ cmG b2 b9 b11, v.oneCell' = true := by simp [cmG, Value.oneCell']
theorem cmF_len (has : Bool) (b2 b11 : Nat) : (cmF has b2 b11).length ≤ 1 := by cases has <;> simp [cmF]
set_option maxRecDepth 20000 in
set_option maxHeartbeats 1000000 in
theorem Commit_bl (X : HP) (hK : KAt X) (lv : Value) (l : List Bl) (hv : Vw X lv l.length (l.flatMap blC)) (hll : l.length ≤ 1000000) (bs bd : Nat) (q : Int) (mb : Nat) (s : Sto) (hst : s.A.states.length ≤ 900000000) (hwl : s.A.writes.length ≤ 900000000) :
  Ctr Tryz.prog 24 [ptr bs, imV lv] (stoL bs bd q mb s ++ [X])
  (fun r H => ∃ (e : Nat) (t : Sto), r = .int .i64 (e : Int) ∧ H = stoL bs bd q mb t ++ [X] ∧ CommitS l s e t) := by
 obtain ⟨A, beg, brk⟩ := s
 simp only at hst hwl
 have him := Image_any X lv l hv hll
 have hnm := Name_any X hK lv l hv hll
 have henc := mEncode_any X lv l hv hll
 obtain ⟨la, lc, rfl⟩ := hv.shape
 unfold imV at him hnm henc ⊢
 refine Ctr.enter Tryz.func24 (by kernel_rfl) rfl Tryz.ntmps24 rfl rfl ?_
 intro G F R hE
 refine K_ent (H' := pts bs (cl (stC bd q mb brk) 92) :: mapR dV mb (begE beg) :: diskA bd A :: X :: F) (Ent.refl _) ?_
 refine K_regionA rfl ?_
 refine J_box rfl rfl (fun _ _ _ => trivial) ?_
 intro b2
 refine J_box rfl rfl (fun _ _ _ => trivial) ?_
 intro b3
 cases brk with
 | true =>
  refine go ?_
  refine K_ent (H' := stoL bs bd q mb ⟨A, beg, true⟩ ++ (X :: F)) entA ?_
  (first | refine K_return hE Tryz.func24 rfl _ rfl ⟨10, ⟨A, beg, true⟩, rfl, rfl, by unfold CommitS; rw [if_pos rfl]; exact ⟨rfl, rfl⟩⟩ entA | refine K_fallEnd hE Tryz.func24 rfl _ rfl ⟨10, ⟨A, beg, true⟩, rfl, rfl, by unfold CommitS; rw [if_pos rfl]; exact ⟨rfl, rfl⟩⟩ entA)
 | false =>
  have hC0 : ∀ e t, (if imageB l ≠ 0 then e = imageB l ∧ t = ⟨A, beg, false⟩
   else if hasF A (fileN kI (nameB l)) then e = 0 ∧ t = ⟨A, beg, false⟩
   else if l.any (fun y => !hasF A (fB y)) then e = 4 ∧ t = ⟨A, beg, false⟩
   else chgS (cmS (hasF A (fileN kN (nameB l))) (fileN kN (nameB l)) ++ [stCreate (fileN kN (nameB l)), stWrite (fileN kN (nameB l)) 0 (encB l)] ++ moveS (fileN kN (nameB l)) (fileN kI (nameB l))) ⟨A, beg, false⟩ e t) → CommitS l ⟨A, beg, false⟩ e t := fun e t h => by
   unfold CommitS; rw [if_neg (by simp)]; exact h
  refine go ?_
  refine J_loadArr (U := tab) (l := [.slice la l.length lc]) 0 rfl rfl rfl rfl rfl rfl ?_
  ((try refine go ?_); first | refine J_callE rfl rfl rfl rfl (him) entA ?_ (fun _ _ _ _ _ => trivial) | refine J_call0E rfl rfl rfl (him) entA ?_ (fun _ _ _ _ _ => trivial))
  rintro _ _ ⟨rfl, rfl⟩
  refine go ?_
  refine K_condP rfl rfl ?_ ?_
  ·intro hne
   have hne' : imageB l ≠ 0 := by omega
   refine go ?_
   refine K_ent (H' := stoL bs bd q mb ⟨A, beg, false⟩ ++ (X :: F)) entA ?_
   (first | refine K_return hE Tryz.func24 rfl _ rfl ⟨imageB l, ⟨A, beg, false⟩, rfl, rfl, hC0 _ _ (by rw [if_pos hne']; exact ⟨rfl, rfl⟩)⟩ entA | refine K_fallEnd hE Tryz.func24 rfl _ rfl ⟨imageB l, ⟨A, beg, false⟩, rfl, rfl, hC0 _ _ (by rw [if_pos hne']; exact ⟨rfl, rfl⟩)⟩ entA)
  intro heq
  have hi : imageB l = 0 := by omega
  have hi' : ¬ imageB l ≠ 0 := by omega
  rw [if_pos hi] at hnm
  refine K_ent (H' := pts b3 (cl [.slice la l.length lc] 55) :: pts b2 (cl [ptr bs] 35) :: pts bs (cl (stC bd q mb false) 92) :: mapR dV mb (begE beg) :: diskA bd A :: X :: F) entA ?_
  refine go ?_
  refine J_loadArr (U := tab) (l := [.slice la l.length lc]) 0 rfl rfl rfl rfl rfl rfl ?_
  ((try refine go ?_); first | refine J_callE rfl rfl rfl rfl (hnm) entA ?_ (fun _ _ _ _ _ => trivial) | refine J_call0E rfl rfl rfl (hnm) entA ?_ (fun _ _ _ _ _ => trivial))
  rintro _ _ ⟨rfl, rfl⟩
  unfold dV
  refine go ?_
  refine J_alloc (U := tab) rfl rfl rfl (fun _ _ _ => trivial) ?_
  intro b6
  refine go ?_
  have hfI := file_any kI (nameB l) (by decide)
  have hfN := file_any kN (nameB l) (by decide)
  unfold dV at hfI hfN
  refine K_ent (H' := pts b6 (cl (dC (nameB l)) 30) :: pts b3 (cl [.slice la l.length lc] 55) :: pts b2 (cl [ptr bs] 35) :: pts bs (cl (stC bd q mb false) 92) :: mapR dV mb (begE beg) :: diskA bd A :: X :: F) entA ?_
  refine K_drawA (fun w => Sat G w ([pts b6 (cl (dC (nameB l)) 30), pts b2 (cl [ptr bs] 35)])) (.st 0 (.st 1 (.act 2 (.act 3 (.st 4 .nil))))) rfl (by kernel_rfl) (by kernel_rfl) (by kernel_rfl) (fun w hw => hw.ent entA) ?_
  refine go ?_
  refine J_loadArrS (U := tab) (l := dC (nameB l)) 0 rfl rfl rfl rfl rfl rfl ?_
  refine go ?_
  (first | refine J_callE rfl rfl rfl rfl (hfI) entA ?_ (fun _ _ w hp hw => by obtain ⟨rfl, rfl⟩ := hp; exact hw.ent entA) | refine J_call0E rfl rfl rfl (hfI) entA ?_ (fun _ _ w hp hw => by obtain ⟨rfl, rfl⟩ := hp; exact hw.ent entA))
  rintro _ _ ⟨rfl, rfl⟩
  refine go ?_
  (first | refine J_callE rfl rfl rfl rfl (is_any bs bd q mb false A (fileN kI (nameB l))) entA ?_ (fun _ _ w hp hw => by obtain ⟨rfl, rfl⟩ := hp; exact hw.ent entA) | refine J_call0E rfl rfl rfl (is_any bs bd q mb false A (fileN kI (nameB l))) entA ?_ (fun _ _ w hp hw => by obtain ⟨rfl, rfl⟩ := hp; exact hw.ent entA))
  rintro _ _ ⟨rfl, rfl⟩
  refine go ?_
  cases hhi : hasF A (fileN kI (nameB l)) with
  | true =>
   refine go ?_
   refine K_ent (H' := stoL bs bd q mb ⟨A, beg, false⟩ ++ (X :: F)) entA ?_
   (first | refine K_return hE Tryz.func24 rfl _ rfl ⟨0, ⟨A, beg, false⟩, rfl, rfl, hC0 _ _ (by rw [if_neg hi', if_pos hhi]; exact ⟨rfl, rfl⟩)⟩ entA | refine K_fallEnd hE Tryz.func24 rfl _ rfl ⟨0, ⟨A, beg, false⟩, rfl, rfl, hC0 _ _ (by rw [if_neg hi', if_pos hhi]; exact ⟨rfl, rfl⟩)⟩ entA)
  | false =>
   have hhi' : ¬ hasF A (fileN kI (nameB l)) = true := by rw [hhi]; simp
   refine go ?_
   refine J_ent (H' := X :: Sep [pts b2 (cl [ptr bs] 35), pts bs (cl (stC bd q mb false) 92), diskA bd A] :: pts b6 (cl (dC (nameB l)) 30) :: pts b3 (cl [.slice la l.length lc] 55) :: mapR dV mb (begE beg) :: F) (Ent.trans (H2 := pts b2 (cl [ptr bs] 35) :: pts bs (cl (stC bd q mb false) 92) :: diskA bd A :: X :: pts b6 (cl (dC (nameB l)) 30) :: pts b3 (cl [.slice la l.length lc] 55) :: mapR dV mb (begE beg) :: F) entA (Ent.trans (Ent.resep [_, _, _] _) entA)) ?_
   ((try refine go ?_); first | refine J_callE rfl rfl rfl rfl (ContainsFunc_bl X (Sep [pts b2 (cl [ptr bs] 35), pts bs (cl (stC bd q mb false) 92), diskA bd A]) _ l hv hll 72 [ptr b2] (fun y => !hasF A (fB y)) (fun y _ => commit1_any b2 bs bd q mb false A y)) entA ?_ (fun _ _ _ _ _ => trivial) | refine J_call0E rfl rfl rfl (ContainsFunc_bl X (Sep [pts b2 (cl [ptr bs] 35), pts bs (cl (stC bd q mb false) 92), diskA bd A]) _ l hv hll 72 [ptr b2] (fun y => !hasF A (fB y)) (fun y _ => commit1_any b2 bs bd q mb false A y)) entA ?_ (fun _ _ _ _ _ => trivial))
   rintro _ _ ⟨rfl, rfl⟩
   refine J_ent (Ent.trans (Ent.pick [1] rfl) (Ent.unsep [_, _, _] _)) ?_
   cases hany : l.any (fun y => !hasF A (fB y)) with
   | true =>
    refine go ?_
    refine K_ent (H' := stoL bs bd q mb ⟨A, beg, false⟩ ++ (X :: F)) entA ?_
    (first | refine K_return hE Tryz.func24 rfl _ rfl ⟨4, ⟨A, beg, false⟩, rfl, rfl, hC0 _ _ (by rw [if_neg hi', if_neg hhi', if_pos hany]; exact ⟨rfl, rfl⟩)⟩ entA | refine K_fallEnd hE Tryz.func24 rfl _ rfl ⟨4, ⟨A, beg, false⟩, rfl, rfl, hC0 _ _ (by rw [if_neg hi', if_neg hhi', if_pos hany]; exact ⟨rfl, rfl⟩)⟩ entA)
   | false =>
    have hC1 : ∀ e t, chgS (cmS (hasF A (fileN kN (nameB l))) (fileN kN (nameB l)) ++ [stCreate (fileN kN (nameB l)), stWrite (fileN kN (nameB l)) 0 (encB l)] ++ moveS (fileN kN (nameB l)) (fileN kI (nameB l))) ⟨A, beg, false⟩ e t → CommitS l ⟨A, beg, false⟩ e t := fun e t h =>
     hC0 e t (by rw [if_neg hi', if_neg hhi', if_neg (by rw [hany]; simp)]; exact h)
    have hel := encB_len hi
    refine J_ent (H' := pts b3 (cl [.slice la l.length lc] 55) :: pts b6 (cl (dC (nameB l)) 30) :: pts b2 (cl [ptr bs] 35) :: pts bs (cl (stC bd q mb false) 92) :: mapR dV mb (begE beg) :: diskA bd A :: X :: F) entA ?_
    refine go ?_
    refine J_loadArr (U := tab) (l := [.slice la l.length lc]) 0 rfl rfl rfl rfl rfl rfl ?_
    ((try refine go ?_); first | refine J_callE rfl rfl rfl rfl (henc) entA ?_ (fun _ _ _ _ _ => trivial) | refine J_call0E rfl rfl rfl (henc) entA ?_ (fun _ _ _ _ _ => trivial))
    rintro _ _ (⟨hbad, _⟩ | ⟨rv, _, rfl, rfl⟩)
    ·exact absurd hi hbad
    (first | refine J_shape 0 rfl ?_ | refine K_shape 0 rfl ?_)
    rintro ra rc rfl
    refine J_slcVw 0 rfl ?_
    intro hbv
    refine go ?_
    refine J_alloc (U := tab) rfl rfl rfl (fun _ _ _ => trivial) ?_
    intro b9
    refine go ?_
    refine J_ent (H' := pts b6 (cl (dC (nameB l)) 30) :: pts b9 (cl [.slice ra (encB l).length rc] 22) :: slc 5 1 (.slice ra (encB l).length rc) (encB l).length (bV (encB l)) :: pts b2 (cl [ptr bs] 35) :: pts bs (cl (stC bd q mb false) 92) :: mapR dV mb (begE beg) :: diskA bd A :: X :: F) entA ?_
    refine go ?_
    refine J_loadArr (U := tab) (l := dC (nameB l)) 0 rfl rfl rfl rfl rfl rfl ?_
    ((try refine go ?_); first | refine J_callE rfl rfl rfl rfl (hfN) entA ?_ (fun _ _ _ _ _ => trivial) | refine J_call0E rfl rfl rfl (hfN) entA ?_ (fun _ _ _ _ _ => trivial))
    rintro _ _ ⟨rfl, rfl⟩
    refine J_alloc (U := tab) rfl rfl rfl (fun _ _ _ => trivial) ?_
    intro b11
    refine go ?_
    obtain ⟨nN, hnN⟩ : ∃ nN, nN = fileN kN (nameB l) := ⟨_, rfl⟩
    obtain ⟨nI, hnI⟩ : ∃ nI, nI = fileN kI (nameB l) := ⟨_, rfl⟩
    rw [← hnN, ← hnI] at hC1
    rw [← hnI] at hfI
    rw [← hnN]
    ((try refine go ?_); first | refine J_callE rfl rfl rfl rfl (is_any bs bd q mb false A nN) entA ?_ (fun _ _ _ _ _ => trivial) | refine J_call0E rfl rfl rfl (is_any bs bd q mb false A nN) entA ?_ (fun _ _ _ _ _ => trivial))
    rintro _ _ ⟨rfl, rfl⟩
    obtain ⟨has, hhas⟩ : ∃ has, has = hasF A nN := ⟨_, rfl⟩
    rw [← hhas] at hC1 ⊢
    refine J_midD 1 (fun g : Option Addr × Nat => True) (fun g => [(2, ptr b2), (6, ptr b6), (9, ptr b9), (11, ptr b11), (12, .slice g.1 (cmF has b2 b11).length g.2)])
     (fun g => slc 95 1 (.slice g.1 (cmF has b2 b11).length g.2) (cmF has b2 b11).length (cmF has b2 b11) :: pts b11 (cl [.string nN] 9) :: pts b6 (cl (dC (nameB l)) 30) :: pts b9 (cl [.slice ra (encB l).length rc] 22) :: slc 5 1 (.slice ra (encB l).length rc) (encB l).length (bV (encB l)) :: pts b2 (cl [ptr bs] 35) :: pts bs (cl (stC bd q mb false) 92) :: mapR dV mb (begE beg) :: diskA bd A :: X :: F) rfl ?_ ?_
    ·rintro ⟨ga, gc⟩ -
     have hfl := cmF_len has b2 b11
     refine go ?_
     refine J_buildSlice1 (U := tab) (cs := cmG b2 b9 b11) rfl rfl rfl rfl rfl rfl rfl rfl rfl (fun _ _ _ => trivial) ?_
     intro row2
     refine J_append (U := tab) (mm := 2) (news := cmG b2 b9 b11) 1 0 rfl rfl rfl rfl rfl rfl rfl rfl rfl rfl rfl rfl (Vw.pts rfl) rfl (cmG_one _ _ _) (by omega) (by show (_ + 2) * 8 ≤ _; omega) (fun _ => rfl) (fun _ _ _ => trivial) ?_
     intro v1
     rw [show (cmF has b2 b11).length + 2 = (cmF has b2 b11 ++ cmG b2 b9 b11).length from by rw [List.length_append]; rfl]
     (first | refine J_shape 1 rfl ?_ | refine K_shape 1 rfl ?_)
     rintro xa xc rfl
     refine go ?_
     refine K_ent (H' := pts b6 (cl (dC (nameB l)) 30) :: pts b2 (cl [ptr bs] 35) :: pts b11 (cl [.string nN] 9) :: slc 95 1 (.slice xa (cmF has b2 b11 ++ cmG b2 b9 b11).length xc) (cmF has b2 b11 ++ cmG b2 b9 b11).length (cmF has b2 b11 ++ cmG b2 b9 b11) :: pts b9 (cl [.slice ra (encB l).length rc] 22) :: slc 5 1 (.slice ra (encB l).length rc) (encB l).length (bV (encB l)) :: pts bs (cl (stC bd q mb false) 92) :: mapR dV mb (begE beg) :: diskA bd A :: X :: F) entA ?_
     refine K_drawA (fun w => Sat G w ([pts b6 (cl (dC (nameB l)) 30), pts b2 (cl [ptr bs] 35), pts b11 (cl [.string nN] 9)])) (.st 0 (.st 1 (.st 2 (.st 3 (.st 4 (.act 5 (.act 6 (.act 7 (.act 8 (.st 9 .nil)))))))))) rfl (by kernel_rfl) (by kernel_rfl) (by kernel_rfl) (fun w hw => hw.ent entA) ?_
     refine go ?_
     refine J_loadArrS (U := tab) (l := dC (nameB l)) 0 rfl rfl rfl rfl rfl rfl ?_
     refine go ?_
     (first | refine J_callE rfl rfl rfl rfl (hfI) entA ?_ (fun _ _ w hp hw => by obtain ⟨rfl, rfl⟩ := hp; exact hw.ent entA) | refine J_call0E rfl rfl rfl (hfI) entA ?_ (fun _ _ w hp hw => by obtain ⟨rfl, rfl⟩ := hp; exact hw.ent entA))
     rintro _ _ ⟨rfl, rfl⟩
     refine go ?_
     (first | refine J_callE rfl rfl rfl rfl (move_any bs bd q mb false nN nI) entA ?_ (fun _ _ w hp hw => by obtain ⟨row, c3, c4, c5, rfl, rfl⟩ := hp; exact hw.ent entA) | refine J_call0E rfl rfl rfl (move_any bs bd q mb false nN nI) entA ?_ (fun _ _ w hp hw => by obtain ⟨row, c3, c4, c5, rfl, rfl⟩ := hp; exact hw.ent entA))
     rintro _ _ ⟨row, c3, c4, c5, rfl, rfl⟩
     refine go ?_
     have hl2 : (cmF has b2 b11 ++ cmG b2 b9 b11).length ≤ 3 := by rw [List.length_append]; show _ + 2 ≤ 3; omega
     refine J_ent (H' := slc 95 1 (.slice xa (cmF has b2 b11 ++ cmG b2 b9 b11).length xc) (cmF has b2 b11 ++ cmG b2 b9 b11).length (cmF has b2 b11 ++ cmG b2 b9 b11) :: pts row (cl (mvF bd c3 c4 c5) 95) :: pts bs (cl (stC bd q mb false) 92) :: diskA bd A :: (cmX bs b2 b9 b11 c3 c4 c5 nN nI (.slice ra (encB l).length rc) (encB l) ++ (pts b6 (cl (dC (nameB l)) 30) :: mapR dV mb (begE beg) :: X :: F))) entA ?_
     refine J_append (U := tab) (mm := 3) (news := mvF bd c3 c4 c5) 0 1 rfl rfl rfl rfl rfl rfl rfl rfl rfl rfl rfl rfl (Vw.pts rfl) rfl (mvF_one _ _ _ _) (by omega) (by show (_ + 3) * 8 ≤ _; omega) (fun _ => rfl) (fun _ _ hw => hw.ent entA) ?_
     intro v2
     rw [show (cmF has b2 b11 ++ cmG b2 b9 b11).length + 3 = (cmF has b2 b11 ++ cmG b2 b9 b11 ++ mvF bd c3 c4 c5).length from (@List.length_append _ (cmF has b2 b11 ++ cmG b2 b9 b11) (mvF bd c3 c4 c5)).symm]
     (first | refine J_shape 0 rfl ?_ | refine K_shape 0 rfl ?_)
     rintro ya yc rfl
     refine J_slcVw 0 rfl ?_
     intro hvs
     have hch := changeA_any bs bd q mb false (Sep (cmX bs b2 b9 b11 c3 c4 c5 nN nI (.slice ra (encB l).length rc) (encB l))) _ _ _ hvs (by rw [List.length_append]; show _ + 3 ≤ 1000; omega) (cmS has nN ++ [stCreate nN, stWrite nN 0 (encB l)] ++ moveS nN nI) A (cm_steps has bs bd q mb false b2 b9 b11 c3 c4 c5 nN nI _ (encB l) hbv (by omega) A hst hwl)
     refine go ?_
     refine J_ent (H' := slc 95 1 (.slice ya (cmF has b2 b11 ++ cmG b2 b9 b11 ++ mvF bd c3 c4 c5).length yc) (cmF has b2 b11 ++ cmG b2 b9 b11 ++ mvF bd c3 c4 c5).length (cmF has b2 b11 ++ cmG b2 b9 b11 ++ mvF bd c3 c4 c5) :: stX bs bd q mb false (Sep (cmX bs b2 b9 b11 c3 c4 c5 nN nI (.slice ra (encB l).length rc) (encB l))) A :: pts b6 (cl (dC (nameB l)) 30) :: mapR dV mb (begE beg) :: X :: F) (Ent.trans (H2 := pts bs (cl (stC bd q mb false) 92) :: diskA bd A :: (cmX bs b2 b9 b11 c3 c4 c5 nN nI (.slice ra (encB l).length rc) (encB l) ++ (slc 95 1 (.slice ya (cmF has b2 b11 ++ cmG b2 b9 b11 ++ mvF bd c3 c4 c5).length yc) (cmF has b2 b11 ++ cmG b2 b9 b11 ++ mvF bd c3 c4 c5).length (cmF has b2 b11 ++ cmG b2 b9 b11 ++ mvF bd c3 c4 c5) :: pts b6 (cl (dC (nameB l)) 30) :: mapR dV mb (begE beg) :: X :: F))) entA (Ent.trans (stX_in bs bd q mb false _ A _) entA)) ?_
     refine J_callE rfl rfl rfl rfl hch entA ?_ (fun _ _ w hp hw => by
      obtain ⟨e, B, rfl, rfl, hruns⟩ := hp
      exact hw.ent (Ent.trans (Ent.pick [1] rfl) (Ent.trans (stX_out bs bd q mb (or false (decide (e ≠ 0))) _ B _) entA)))
     rintro _ _ ⟨e, B, rfl, rfl, hruns⟩
     refine J_ent (Ent.trans (Ent.pick [1] rfl) (stX_out bs bd q mb (or false (decide (e ≠ 0))) _ B _)) ?_
     refine go ?_
     refine K_ent (H' := stoL bs bd q mb ⟨B, beg, or false (decide (e ≠ 0))⟩ ++ (X :: F)) entA ?_
     (first | refine K_return hE Tryz.func24 rfl _ rfl ⟨e, ⟨B, beg, or false (decide (e ≠ 0))⟩, rfl, rfl, hC1 _ _ ⟨B, hruns, rfl⟩⟩ entA | refine K_fallEnd hE Tryz.func24 rfl _ rfl ⟨e, ⟨B, beg, or false (decide (e ≠ 0))⟩, rfl, rfl, hC1 _ _ ⟨B, hruns, rfl⟩⟩ entA)
    ·intro tail
     cases has with
     | false =>
      refine J_ent (slc_lift 95 1 none _) ?_
      (refine goR ?_)
      refine K_condF rfl rfl ?_
      refine K_to tail (none, 0) rfl trivial (by repeat (first | exact keep_nil | refine keep_cons rfl ?_)) entA
     | true =>
      refine go ?_
      refine J_buildSlice1 (U := tab) (cs := cmF true b2 b11) rfl rfl rfl rfl rfl rfl rfl rfl rfl (fun _ _ _ => trivial) ?_
      intro row1
      refine J_ent (slc_lift 95 1 none _) ?_
      refine J_append (U := tab) (mm := 1) (news := cmF true b2 b11) 0 1 rfl rfl rfl rfl rfl rfl rfl rfl rfl rfl rfl rfl (Vw.pts rfl) rfl (cmF_one _ _ _) (by omega) (by show (0 + 1) * 8 ≤ _; omega) (fun _ => rfl) (fun _ _ _ => trivial) ?_
      intro v1
      (first | refine J_shape 0 rfl ?_ | refine K_shape 0 rfl ?_)
      rintro xa xc rfl
      (refine goR ?_)
      refine K_to tail (xa, xc) rfl trivial (by repeat (first | exact keep_nil | refine keep_cons rfl ?_)) entA
end Go.Proofs.YtpecmnaikjbanaaGreatDoor
/- blobs: a blob is taken in (the law's put). -/
namespace Go.Proofs.YtpecmnaikjbanaaGreatDoor
open Go Go.SL
attribute [local irreducible] J K Ctr Ends pts slc mapR mapI sbRow stock arrS loopP CtrY Sha.chunks Sha.chunk Sha.rounds Sha.sched sumL taggedL GI leafL diskA
theorem SGrow.trans {m n : Nat} {s t u : Sto} (h : SGrow m s t) (h' : SGrow n t u) : SGrow (m + n) s u := ⟨by have := h.1; have := h'.1; omega, by have := h.2; have := h'.2; omega⟩
end Go.Proofs.YtpecmnaikjbanaaGreatDoor
/- blobs: the law Half, its walk. -/
namespace Go.Proofs.YtpecmnaikjbanaaGreatDoor
open Go Go.SL
theorem image_one {x : Bl} (hx : rightB x = true) : imageB [x] = 0 := by
 unfold imageB
 rw [if_neg (by simp [hx])]
 rfl
attribute [local irreducible] J K Ctr Ends pts slc mapR mapI sbRow stock arrS loopP CtrY Sha.chunks Sha.chunk Sha.rounds Sha.sched sumL taggedL GI leafL diskA
end Go.Proofs.YtpecmnaikjbanaaGreatDoor
/- blobs, plain: the end of the law Whole. -/
namespace Go.Proofs.YtpecmnaikjbanaaGreatDoor
open Go Go.SL
theorem readS_vw {A : Ab} (h : HA A) {d : Dg} {c : List UInt8} (hv : vw A (fBd d) = some c) : readS A d 0 (c.length : Int) = (c, 0) := by
 unfold readS
 rw [hasF_vw, show vw A (fileN kB d) = some c from hv]
 simp only [Option.isSome_some, if_true]
 unfold Ab.read
 rw [if_neg (by rw [h.on]; simp)]
 unfold vw at hv
 cases hl : A.look (fBd d) with
 | none => rw [hl] at hv; cases hv
 | some f =>
  rw [hl] at hv
  have hn : A.now f = c := by injection hv
  rw [show A.look (fileN kB d) = some f from hl]
  simp only
  rw [hn, if_neg (by omega)]
  simp
def wholeV (x : Bl) (b : List UInt8) : Vm := setV (setV (fun _ => none) (fBd x.d) (some b)) (fI (nameB [x])) (some (encB [x]))
theorem whole_commit {s t : Sto} {e : Nat} {x : Bl} {b : List UInt8} (hs : StoI 1048576 s) (hv : vw s.A = setV (fun _ => none) (fBd x.d) (some b)) (hn : s.A.names.length ≤ 1) (hb : s.beg = []) (hx : rightB x = true) (hR : CommitS [x] s e t) :
  e = 0 ∧ StoI 1048576 t ∧ t.beg = [] ∧ vw t.A = wholeV x b ∧ t.A.states = [t.A.names] := by
 have hno : vw s.A (fI (nameB [x])) = none := by rw [hv, setV_ne _ _ (fun e => fBd_ne_fI _ _ e.symm)]
 have hall : ∀ y ∈ [x], (vw s.A (fBd y.d)).isSome = true := fun y hy => by rw [List.mem_singleton.1 hy, hv, setV_at]; rfl
 have hus := hs.used
 have hqs := hs.quota
 have hrm := hs.room
 obtain ⟨rfl, -, -, c1, v1, -⟩ := Commit_ok hs.ha hs.brk (image_one hx) hno hall (hs.noN _) (by omega) (by omega) hR
 obtain ⟨k1, -⟩ := hs.commit (by omega) (by omega) hR
 refine ⟨rfl, k1, c1.trans hb, by rw [v1, hv]; rfl, commit_states hs.brk (by rw [hasF_vw, show vw s.A (fileN kI (nameB [x])) = none from hno]; rfl) hR⟩
theorem whole_image {C : Ab} {x : Bl} {b : List UInt8} (h : HA C) (hv : vw C = wholeV x b) (hx : rightB x = true) : imageF C (nameB [x]) = some [x] := by
 rw [imageF_vw h, hv, wholeV, setV_at, Option.bind_some, decB_enc (image_one hx)]
theorem whole_drop {C : Ab} {t : Sto} {e : Nat} {x : Bl} {b : List UInt8} (h : HA C) (hv : vw C = wholeV x b) (hx : rightB x = true) (hR : DropS (nameB [x]) ⟨C, [], false⟩ e t) :
  e = 0 ∧ hasF t.A (fileN kB x.d) = false ∧ usedS t = 0 ∧ t.beg = [] := by
 have hc : vw C (fI (nameB [x])) = some (encB [x]) := by rw [hv, wholeV, setV_at]
 obtain ⟨rfl, g1, -, g2, -, -, -, v0, v1, v2⟩ := Drop_ok (s := ⟨C, [], false⟩) h rfl hc (decB_enc (image_one hx)) hR
 have hno : ∀ d' c' l', d' ≠ nameB [x] → vw C (fI d') = some c' → decB c' = some l' → x.d ∉ l'.map (·.d) := fun d' c' l' hd hc' => by
  rw [hv, wholeV, setV_ne _ _ (fun e => hd (fI_inj e)), setV_ne _ _ (fun e => fBd_ne_fI _ _ e.symm)] at hc'
  cases hc'
 have hB := v2 x (List.mem_singleton.2 rfl) hno
 have hall : ∀ n, vw t.A n = none := fun n => by
  by_cases h1 : n = fI (nameB [x])
  ·rw [h1]; exact v0
  by_cases h2 : n = fBd x.d
  ·rw [h2]; exact hB
  rcases v1 n h1 with h3 | ⟨h3, _⟩
  ·rw [h3]
   show vw C n = none
   rw [hv, wholeV, setV_ne _ _ h1, setV_ne _ _ h2]
  ·exact h3
 refine ⟨rfl, by rw [hasF_vw, show vw t.A (fileN kB x.d) = none from hB]; rfl, ?_, g2⟩
 obtain ⟨tA, tb, tk⟩ := t
 simp only at g2
 subst g2
 exact usedS_nil g1 hall
theorem Cov.weak {x : Bl} {w c : List UInt8} {P Q : Int → Prop} (h : Cov x w c P) (hQ : ∀ k, Q k → P k) : Cov x w c Q := ⟨h.len, fun k hk => h.has k (hQ k hk)⟩
theorem PutI.weak {q : Int} {s u : Sto} {x : Bl} {w : List UInt8} {P Q : Int → Prop} (h : PutI q s x w P u) (hQ : ∀ k, Q k → P k) : PutI q s x w Q u := ⟨h.si, h.beg, h.opn, (by obtain ⟨c, h1, h2⟩ := h.vw; exact ⟨c, h1, h2.weak hQ⟩), h.len, h.used⟩
def noD : Dg → Prop := fun _ => False
theorem row_one (row : Nat) (x : Bl) (X : HP) : Vw (Sep [pts row (cl ([x].flatMap blC) 32), X]) (.slice (some ⟨row, 0, none⟩) [x].length 1) [x].length ([x].flatMap blC) := (Vw.pts rfl).mono (Sep_get (i := 0) rfl)
theorem row_one' (row : Nat) (x : Bl) : Vw (pts row (cl ([x].flatMap blC) 32)) (.slice (some ⟨row, 0, none⟩) [x].length 1) [x].length ([x].flatMap blC) := Vw.pts rfl
end Go.Proofs.YtpecmnaikjbanaaGreatDoor
