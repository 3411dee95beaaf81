/- files, part Gf0: a file that was synced stays, whatever is done to others: plain laws. -/
import Derived.Test.YtokknepnmfklnaaFz
import Derived.Test.YtokknepnmfklnaaFy
import Derived.Test.YtokknepnmfklnaaEngL
set_option linter.unusedVariables false
set_option linter.unusedSimpArgs false
namespace Go.Proofs.Ytokknepnmfklnaa
open Go Go.SL
attribute [local irreducible] J K Ctr Ends pts slc mapR mapI sbRow stock arrS

/-- The file f, called name, holds b, now and surely, and no write to it is late. -/
structure Keeps (A : Ab) (name : ByteArray) (f : Nat) (b : List UInt8) (k : Nat) : Prop where
  look : ∀ st ∈ A.names :: A.states, Ab.lookIn st name = some f
  sole : ∀ st ∈ A.names :: A.states, ∀ x ∈ st, x.2 = f → x.1 = name
  file : (f, b, b) ∈ A.fs
  wr : ∀ w ∈ A.writes, w.1 ≠ f
  ids : (A.fs.map (·.1)).Nodup
  full : A.states ≠ []
  st : A.states.length ≤ k + 1
  ws : A.writes.length ≤ k
theorem Keeps.same {A B : Ab} {name : ByteArray} {f : Nat} {b : List UInt8} {k k' : Nat} (h : Keeps A name f b k) (h1 : B.names = A.names) (h2 : B.states = A.states) (h3 : B.fs = A.fs) (h4 : B.writes = A.writes) (hk : k ≤ k') : Keeps B name f b k' :=
  ⟨by rw [h1, h2]; exact h.look, by rw [h1, h2]; exact h.sole, by rw [h3]; exact h.file, by rw [h4]; exact h.wr, by rw [h3]; exact h.ids, by rw [h2]; exact h.full, by rw [h2]; have := h.st; omega, by rw [h4]; have := h.ws; omega⟩
theorem Keeps.meet {A : Ab} {name : ByteArray} {f : Nat} {b : List UInt8} {k : Nat} (h : Keeps A name f b k) (may : Bool) : Keeps (A.meet may).2 name f b k := by
  have := meet_fs A may
  exact h.same this.2.1 this.2.2.1 this.1 this.2.2.2.1 (Nat.le_refl _)
theorem Keeps.find {A : Ab} {name : ByteArray} {f : Nat} {b : List UInt8} {k : Nat} (h : Keeps A name f b k) (nm : ByteArray) (may : Bool) : Keeps (A.find nm may).2.2 name f b k := by
  have := find_same A nm may
  exact h.same this.2.1 this.2.2.1 this.1 this.2.2.2.1 (Nat.le_refl _)
/-- Names changed. -/
theorem Keeps.chg {A : Ab} {name : ByteArray} {f : Nat} {b : List UInt8} {k : Nat} (h : Keeps A name f b k) {nm : List (ByteArray × Nat)} (h1 : Ab.lookIn nm name = some f) (h2 : ∀ x ∈ nm, x.2 = f → x.1 = name) : Keeps (A.chg nm) name f b (k + 1) where
  look st hst := by
    simp only [Ab.chg, List.mem_cons, List.mem_append, List.not_mem_nil, or_false] at hst
    rcases hst with rfl | hst | rfl
    · exact h1
    · exact h.look st (List.mem_cons_of_mem _ hst)
    · exact h1
  sole st hst := by
    simp only [Ab.chg, List.mem_cons, List.mem_append, List.not_mem_nil, or_false] at hst
    rcases hst with rfl | hst | rfl
    · exact h2
    · exact h.sole st (List.mem_cons_of_mem _ hst)
    · exact h2
  file := h.file
  wr := h.wr
  ids := h.ids
  full := by simp [Ab.chg]
  st := by have := h.st; simp [Ab.chg]; omega
  ws := Nat.le_succ_of_le h.ws
theorem Keeps.up {A : Ab} {name : ByteArray} {f : Nat} {b : List UInt8} {k k' : Nat} (h : Keeps A name f b k) (hk : k ≤ k') : Keeps A name f b k' := h.same rfl rfl rfl rfl hk
theorem Keeps.create {A : Ab} {name : ByteArray} {f : Nat} {b : List UInt8} {k : Nat} (h : Keeps A name f b k) (ok : Bool) (a : ByteArray) (fr : Nat) (hfr : fr ∉ A.fs.map (·.1)) : Keeps (A.create ok a fr).2 name f b (k + 1) := by
  have hm := h.meet ok
  have hfs := (meet_fs A ok).1
  unfold Ab.create
  split
  · split
    · exact hm.up (Nat.le_succ _)
    · split
      · exact hm.up (Nat.le_succ _)
      · have hne : fr ≠ f := fun e => hfr (e ▸ List.mem_map.2 ⟨_, h.file, rfl⟩)
        have h1 : Ab.lookIn ((A.meet ok).2.names ++ [(a, fr)]) name = some f := by
          have := hm.look _ (List.mem_cons_self ..)
          unfold Ab.lookIn at this ⊢
          rw [List.find?_append]
          cases hx : (A.meet ok).2.names.find? fun x => decide (x.1 = name) with
          | none => rw [hx] at this; cases this
          | some y => rw [hx] at this; exact this
        have h2 : ∀ x ∈ (A.meet ok).2.names ++ [(a, fr)], x.2 = f → x.1 = name := fun x hx he => by
          rcases List.mem_append.1 hx with hx | hx
          · exact hm.sole _ (List.mem_cons_self ..) x hx he
          · simp only [List.mem_singleton] at hx; subst hx; exact absurd he hne
        have h3 := hm.chg h1 h2
        exact ⟨h3.look, h3.sole, List.mem_cons_of_mem _ h3.file, h3.wr, by
          simp only [List.map_cons, List.nodup_cons]
          refine ⟨?_, hm.ids⟩
          rw [hfs]; exact hfr, h3.full, h3.st, h3.ws⟩
  · exact hm.up (Nat.le_succ _)
/-- What is found under another name is another file. -/
theorem Keeps.other {A : Ab} {name : ByteArray} {f : Nat} {b : List UInt8} {k : Nat} (h : Keeps A name f b k) {a : ByteArray} {ok : Bool} (ha : a ≠ name) {fl : Nat} (h0 : (A.find a ok).1 = 0) (hf : (A.find a ok).2.1 = some fl) : fl ≠ f := by
  obtain ⟨_, fl', h1, h2⟩ := find_parts h0
  rw [hf] at h1
  cases h1
  intro e
  exact ha ((h.find a ok).sole _ (List.mem_cons_self ..) _ h2 e)
theorem map_keep {fs : Fss} {f : Nat} {b : List UInt8} (hm : (f, b, b) ∈ fs) {g : Nat × List UInt8 × List UInt8 → Nat × List UInt8 × List UInt8} (hg : g (f, b, b) = (f, b, b)) : (f, b, b) ∈ fs.map g := List.mem_map.2 ⟨_, hm, hg⟩
theorem Keeps.write {A : Ab} {name : ByteArray} {f : Nat} {b : List UInt8} {k : Nat} (h : Keeps A name f b k) (ok : Bool) {a : ByteArray} (ha : a ≠ name) (at_ : Nat) (c : List UInt8) : Keeps (A.write ok a at_ c).2 name f b (k + 1) := by
  have hf := h.find a ok
  unfold Ab.write
  split
  · rename_i h0
    split
    · rename_i fl hfl
      have hne := h.other ha h0 hfl
      split
      · exact hf.up (Nat.le_succ _)
      · exact ⟨hf.look, hf.sole, map_keep hf.file (by rw [if_neg (Ne.symm hne)]), fun w hw => by
          rcases List.mem_append.1 hw with hw | hw
          · exact hf.wr w hw
          · simp only [List.mem_singleton] at hw; subst hw; exact hne, by simp only [upd_ids]; exact hf.ids, hf.full, Nat.le_succ_of_le hf.st, by simp; exact hf.ws⟩
    · exact hf.up (Nat.le_succ _)
  · exact hf.up (Nat.le_succ _)
theorem Keeps.sync {A : Ab} {name : ByteArray} {f : Nat} {b : List UInt8} {k : Nat} (h : Keeps A name f b k) (ok : Bool) {a : ByteArray} (ha : a ≠ name) : Keeps (A.sync ok a).2 name f b (k + 1) := by
  have hf := h.find a ok
  unfold Ab.sync
  split
  · rename_i h0
    split
    · rename_i fl hfl
      have hne := h.other ha h0 hfl
      exact ⟨hf.look, hf.sole, map_keep hf.file (by rw [if_neg (Ne.symm hne)]), fun w hw => hf.wr w (List.mem_filter.1 hw).1, by simp only [updS_ids]; exact hf.ids, hf.full, Nat.le_succ_of_le hf.st, Nat.le_succ_of_le (Nat.le_trans (List.length_filter_le _ _) hf.ws)⟩
    · exact hf.up (Nat.le_succ _)
  · exact hf.up (Nat.le_succ _)
theorem lookIn_del {l : List (ByteArray × Nat)} {name a : ByteArray} (ha : a ≠ name) : Ab.lookIn (Ab.delN l a) name = Ab.lookIn l name := by
  unfold Ab.lookIn Ab.delN
  rw [List.find?_filter]
  congr 1
  induction l with
  | nil => rfl
  | cons x l ih =>
    simp only [List.find?_cons]
    by_cases hx : x.1 = name
    · have : x.1 ≠ a := fun e => ha (e.symm.trans hx)
      simp [hx, Ne.symm ha]
    · simp [hx]; simpa using ih
theorem lookIn_set {l : List (ByteArray × Nat)} {name c : ByteArray} (hc : c ≠ name) (f : Nat) {g : Nat} (h : Ab.lookIn l name = some g) : Ab.lookIn (Ab.setN l c f) name = some g := by
  unfold Ab.setN
  split
  · rw [← h]
    unfold Ab.lookIn
    clear h
    rename_i hx
    clear hx
    induction l with
    | nil => rfl
    | cons x l ih =>
      simp only [List.map_cons, List.find?_cons]
      by_cases hx : x.1 = c
      · have h1 : x.1 ≠ name := fun e => hc (hx.symm.trans e)
        simp [hx, hc]
        simpa using ih
      · simp only [hx, if_false]
        by_cases h1 : x.1 = name
        · simp [h1]
        · simp [h1]; simpa using ih
  · unfold Ab.lookIn at h ⊢
    rw [List.find?_append]
    cases hx : l.find? fun x => decide (x.1 = name) with
    | none => rw [hx] at h; cases h
    | some y => rw [hx] at h; exact h
theorem Keeps.rename {A : Ab} {name : ByteArray} {f : Nat} {b : List UInt8} {k : Nat} (h : Keeps A name f b k) (ok : Bool) {a c : ByteArray} (ha : a ≠ name) (hc : c ≠ name) : Keeps (A.rename ok a c).2 name f b (k + 1) := by
  have hf := h.find a ok
  have hoth := @Keeps.other A name f b k h a ok ha
  unfold Ab.rename
  split
  · rename_i fl A1 he
    rw [he] at hf hoth
    have hne := hoth rfl rfl
    refine hf.chg (lookIn_set hc _ (by rw [lookIn_del ha]; exact hf.look _ (List.mem_cons_self ..))) ?_
    intro x hx he2
    have hdel : ∀ x ∈ Ab.delN A1.names a, x.2 = f → x.1 = name := fun x hx he => hf.sole _ (List.mem_cons_self ..) x (List.mem_filter.1 hx).1 he
    unfold Ab.setN at hx
    split at hx
    · obtain ⟨z, hz, rfl⟩ := List.mem_map.1 hx
      split at he2
      · exact absurd he2 hne
      · rename_i hzc
        rw [if_neg hzc]
        exact hdel z hz he2
    · rcases List.mem_append.1 hx with hx | hx
      · exact hdel x hx he2
      · simp only [List.mem_singleton] at hx; subst hx; exact absurd he2 hne
  · rename_i e2 o A1 hcase he
    rw [he] at hf
    exact hf.up (Nat.le_succ _)
theorem Keeps.remove {A : Ab} {name : ByteArray} {f : Nat} {b : List UInt8} {k : Nat} (h : Keeps A name f b k) (ok : Bool) {a : ByteArray} (ha : a ≠ name) : Keeps (A.remove ok a).2 name f b (k + 1) := by
  have hf := h.find a ok
  unfold Ab.remove
  split
  · rename_i fl A1 he
    rw [he] at hf
    refine hf.chg (by rw [lookIn_del ha]; exact hf.look _ (List.mem_cons_self ..)) ?_
    intro x hx he2
    exact hf.sole _ (List.mem_cons_self ..) x (List.mem_filter.1 hx).1 he2
  · rename_i e2 o A1 hcase he
    rw [he] at hf
    exact hf.up (Nat.le_succ _)
theorem Keeps.syncNames {A : Ab} {name : ByteArray} {f : Nat} {b : List UInt8} {k : Nat} (h : Keeps A name f b k) : Keeps A.syncNames.2 name f b (k + 1) := by
  have hm := h.meet true
  unfold Ab.syncNames
  split
  · have hs : ∀ st ∈ (A.meet true).2.names :: [(A.meet true).2.names], st = (A.meet true).2.names := fun st hst => by simpa using hst
    exact ⟨fun st hst => by rw [hs st hst]; exact hm.look _ (List.mem_cons_self ..), fun st hst => by rw [hs st hst]; exact hm.sole _ (List.mem_cons_self ..), hm.file, hm.wr, hm.ids, by simp, by simp, Nat.le_succ_of_le hm.ws⟩
  · exact hm.up (Nat.le_succ _)
theorem lasts_keep {stay : List UInt8} {torn cut : Int} {f : Nat} {b : List UInt8} : ∀ (ws : List (Nat × Nat × List UInt8)) (i : Nat) (fs : Fss), (∀ w ∈ ws, w.1 ≠ f) → (f, b, b) ∈ fs → (f, b, b) ∈ Ab.lasts stay torn cut i ws fs := by
  intro ws
  induction ws with
  | nil => intro i fs _ h; exact h
  | cons w ws ih =>
    intro i fs hw h
    have hw' : ∀ w ∈ ws, w.1 ≠ f := fun w h => hw w (List.mem_cons_of_mem _ h)
    unfold Ab.lasts
    cases Ab.kept stay torn cut i w.2.2 with
    | none => exact ih _ _ hw' h
    | some c =>
      refine ih _ _ hw' (map_keep h ?_)
      rw [if_neg (fun e => hw w (List.mem_cons_self ..) e.symm)]
theorem crash_parts (A : Ab) (last torn cut : Int) (stay : List UInt8) (hfull : A.states ≠ []) : ∃ nm ∈ A.states, (A.crash last stay torn cut).names = nm ∧ (A.crash last stay torn cut).states = [nm] ∧ (A.crash last stay torn cut).writes = [] ∧ (A.crash last stay torn cut).off = false ∧
    (A.crash last stay torn cut).fs = mark (Ab.reach (A.states ++ [nm])) (Ab.lasts stay torn cut 0 A.writes A.fs) := by
  have hp : 0 < A.states.length := List.length_pos_iff.2 hfull
  obtain ⟨q, hq⟩ : ∃ q : Nat, (max 0 (min last ((A.states.length : Int) - 1))) = q := Int.eq_ofNat_of_zero_le (by omega)
  have hqs : q < A.states.length := by omega
  have e : A.states.getD (max 0 (min last ((A.states.length : Int) - 1))).toNat [] = A.states[q] := by
    rw [hq, Int.toNat_natCast, List.getD_eq_getElem?_getD, List.getElem?_eq_getElem hqs]; rfl
  refine ⟨A.states[q], List.getElem_mem _, ?_⟩
  simp only [Ab.crash, e]
  exact ⟨trivial, trivial, trivial, trivial, rfl⟩
theorem Keeps.crash {A : Ab} {name : ByteArray} {f : Nat} {b : List UInt8} {k : Nat} (h : Keeps A name f b k) (last torn cut : Int) (stay : List UInt8) : Keeps (A.crash last stay torn cut) name f b (k + 1) ∧ (A.crash last stay torn cut).off = false := by
  obtain ⟨nm, hnm, h1, h2, h3, h4, h5⟩ := crash_parts A last torn cut stay h.full
  have hs : ∀ st ∈ (A.crash last stay torn cut).names :: (A.crash last stay torn cut).states, st = nm := fun st hst => by rw [h1, h2] at hst; simpa using hst
  refine ⟨⟨fun st hst => by rw [hs st hst]; exact h.look _ (List.mem_cons_of_mem _ hnm), fun st hst => by rw [hs st hst]; exact h.sole _ (List.mem_cons_of_mem _ hnm), ?_, by rw [h3]; simp, ?_, by rw [h2]; simp, by rw [h2]; simp, by rw [h3]; simp⟩, h4⟩
  · rw [h5]
    refine map_keep (lasts_keep _ _ _ h.wr h.file) ?_
    split <;> rfl
  · rw [h5, mark_ids, lasts_ids]; exact h.ids
theorem Keeps.acted {A : Ab} {name : ByteArray} {f : Nat} {b : List UInt8} {k : Nat} (h : Keeps A name f b k) (y : ActD) (fr : Nat) (hfr : fr ∉ A.fs.map (·.1)) (ha : y.a ≠ name) (hc : y.c ≠ name) : Keeps (act A y fr) name f b (k + 1) := by
  unfold act
  split
  · exact h.create _ _ _ hfr
  split
  · exact h.write _ ha _ _
  split
  · exact h.sync _ ha
  split
  · exact h.rename _ ha hc
  split
  · exact h.remove _ ha
  split
  · exact h.syncNames
  split
  · exact (h.crash _ _ _ _).1
  · exact h.up (Nat.le_succ _)
theorem Keeps.now {A : Ab} {name : ByteArray} {f : Nat} {b : List UInt8} {k : Nat} (h : Keeps A name f b k) : A.now f = b := by
  obtain ⟨i, hi⟩ := List.getElem?_of_mem h.file
  unfold Ab.now Ab.file
  rw [find_nodup h.ids hi]; rfl
theorem Keeps.size {A : Ab} {name : ByteArray} {f : Nat} {b : List UInt8} {k : Nat} (h : Keeps A name f b k) : A.size name = (b.length, 0) := by
  unfold Ab.size Ab.look
  rw [h.look _ (List.mem_cons_self ..)]
  simp only [h.now]
theorem Keeps.read {A : Ab} {name : ByteArray} {f : Nat} {b : List UInt8} {k : Nat} (h : Keeps A name f b k) (ho : A.off = false) : A.read name 0 b.length = (b, 0) := by
  unfold Ab.read Ab.look
  rw [h.look _ (List.mem_cons_self ..), ho]
  simp [h.now]
def nameKept : ByteArray := ⟨#[107, 101, 112, 116]⟩
theorem isName_Kept : isName nameKept = true := by decide
theorem keeps_one (room f : Nat) (b : List UInt8) : Keeps (one room nameKept f b b [[(nameKept, f)]] []) nameKept f b 0 where
  look st hst := by
    have : st = [(nameKept, f)] := by simpa [one] using hst
    subst this; simp [Ab.lookIn]
  sole st hst x hx _ := by
    have : st = [(nameKept, f)] := by simpa [one] using hst
    subst this
    simp only [List.mem_singleton] at hx; subst hx; rfl
  file := by simp [one]
  wr := by simp [one]
  ids := by simp [one]
  full := by simp [one]
  st := by simp [one]
  ws := by simp [one]
end Go.Proofs.Ytokknepnmfklnaa
