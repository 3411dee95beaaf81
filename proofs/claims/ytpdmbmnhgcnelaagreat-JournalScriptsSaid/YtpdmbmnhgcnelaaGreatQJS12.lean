/- Texts of one claim, joined: Ub, Gg0, Uc, Ud, Ue, Uf, Ug, Gs0, Gg1, Uh, Jo, Ul. -/
import Derived.Test.YtpdmbmnhgcnelaaGreatQJS4
import Derived.Test.YtpdmbmnhgcnelaaGreatQJS6
import Derived.Test.YtpdmbmnhgcnelaaGreatQJS7
import Derived.Test.YtpdmbmnhgcnelaaGreatQJS10
import Derived.Test.YtpdmbmnhgcnelaaGreatQJS11
import Derived.Shelf.SortG.Plain
import Derived.Shelf.SortG.SortNone
import Derived.Test.YtpdmbmnhgcnelaaGreatChecked
/- both disks and both journals, plain: the order of names; Append, Commit, Compact. -/
set_option linter.unusedVariables false
set_option linter.unusedSimpArgs false
namespace Go.Proofs.YtpdmbmnhgcnelaaGreat
open Go Go.SL
/-! ## order -/
def Ord (l : List Nm) : Prop := l.Pairwise fun x y => ltS x.1 y.1 = true
theorem ltS_iff (a b : ByteArray) : ltS a b = true ↔ a.data.toList < b.data.toList := by rw [ltS_lt, decide_eq_true_iff]
theorem ltS_tri {a b : ByteArray} (h : (!(ltS a b || eqS a b)) = true) : ltS b a = true := by
  simp only [Bool.not_eq_true', Bool.or_eq_false_iff] at h
  rw [ltS_iff]
  have h1 : ¬ a.data.toList < b.data.toList := by rw [← ltS_iff]; simp [h.1]
  have h2 : ¬ a.data.toList = b.data.toList := by simpa [eqS] using h.2
  rcases Std.lt_trichotomy a.data.toList b.data.toList with h3 | h3 | h3
  · exact absurd h3 h1
  · exact absurd h3 h2
  · exact h3
theorem ltS_trans {a b c : ByteArray} (h1 : ltS a b = true) (h2 : ltS b c = true) : ltS a c = true := by
  rw [ltS_iff] at *; exact List.lt_trans h1 h2
theorem Ord.without {l : List Nm} (h : Ord l) (k : ByteArray) : Ord (RM.without l k) := List.Pairwise.filter _ h
theorem Ord.with_ {l : List Nm} (h : Ord l) {x : Nm} (hx : x.1 ∉ l.map (·.1)) : Ord (RM.with_ l x) := by
  induction l with
  | nil => exact List.pairwise_singleton _ _
  | cons y l ih =>
    have hp := List.pairwise_cons.1 h
    rw [List.map_cons, List.mem_cons, not_or] at hx
    unfold RM.with_
    split
    · rename_i hg
      have hxy := ltS_tri hg
      refine List.pairwise_cons.2 ⟨fun z hz => ?_, h⟩
      rcases List.mem_cons.1 hz with rfl | hz
      · exact hxy
      · exact ltS_trans hxy (hp.1 z hz)
    · rename_i hg
      have hyx : ltS y.1 x.1 = true := by
        have hne : eqS y.1 x.1 = false := by
          have : ¬ y.1 = x.1 := fun e => hx.1 e.symm
          simp only [eqS, beq_eq_false_iff_ne, ne_eq]
          intro e
          exact this (by cases hy : y.1; cases hx2 : x.1; rw [hy, hx2] at e; simp only at e; congr; exact Array.ext' e)
        simpa [hne] using hg
      refine List.pairwise_cons.2 ⟨fun z hz => ?_, ih hp.2 hx.2⟩
      rcases List.mem_cons.1 ((with_perm l x).mem_iff.1 hz) with rfl | hz
      · exact hyx
      · exact hp.1 z hz
structure OrdM (m : RM) : Prop where
  l : Ord m.l
  sts : ∀ st ∈ m.sts, Ord st
theorem OrdM.new (room : Int) : OrdM (RM.new room) := ⟨List.Pairwise.nil, fun st h => by
  have : st = [] := by simpa [RM.new] using h
  rw [this]; exact List.Pairwise.nil⟩
theorem OrdM.of {m m' : RM} (h : OrdM m) (hl : m'.l = m.l) (hs : m'.sts = m.sts) : OrdM m' := ⟨by rw [hl]; exact h.l, by rw [hs]; exact h.sts⟩
theorem OrdM.may {m : RM} (h : OrdM m) : OrdM m.may.2 := by
  obtain ⟨h1, h2, h3, h4, h5, h6⟩ := m.may_same
  exact h.of h3 h4
theorem OrdM.named {m : RM} (h : OrdM m) {l : List Nm} (hl : Ord l) : OrdM (m.named l) := ⟨hl, fun st hst => by
  rcases List.mem_append.1 hst with hst | hst
  · exact h.sts st hst
  · rw [List.mem_singleton.1 hst]; exact hl⟩
theorem rfind_no {l : List Nm} {name : ByteArray} (h : (l.find? fun x => decide (x.1 = name)).map (·.2) = none) : name ∉ l.map (·.1) := lookIn_none h
theorem without_no (l : List Nm) (k : ByteArray) : k ∉ (RM.without l k).map (·.1) := delN_no l k
theorem OrdM.create {m : RM} (h : OrdM m) (ok : Bool) (name : ByteArray) : OrdM (m.create ok name).2 := by
  unfold RM.create
  split
  · exact h
  split
  · exact h.may
  split
  · exact h.may
  rename_i hf
  split
  · exact h.may
  have h0 : (m.may.2.find name) = none := by simpa using hf
  exact OrdM.named (m := { m.may.2 with now := m.may.2.now ++ [[]], sure := m.may.2.sure ++ [[]] }) (h.may.of rfl rfl) (h.may.l.with_ (x := (name, m.may.2.now.length)) (rfind_no h0))
theorem OrdM.write {m : RM} (h : OrdM m) (ok : Bool) (name : ByteArray) (at_ : Nat) (b : List UInt8) : OrdM (m.write ok name at_ b).2 := by
  unfold RM.write
  split
  · exact h
  split
  · exact h.may
  split
  · exact h.may
  split
  · exact h.may
  · exact h.may.of rfl rfl
theorem OrdM.sync {m : RM} (h : OrdM m) (ok : Bool) (name : ByteArray) : OrdM (m.sync ok name).2 := by
  unfold RM.sync
  split
  · exact h
  split
  · exact h.may
  split
  · exact h.may
  · exact h.may.of rfl rfl
theorem OrdM.rename {m : RM} (h : OrdM m) (ok : Bool) (old name : ByteArray) : OrdM (m.rename ok old name).2 := by
  unfold RM.rename
  split
  · exact h
  split
  · exact h.may
  split
  · exact h.may
  · exact h.may.named (((h.may.l.without old).without name).with_ (without_no _ _))
theorem OrdM.remove {m : RM} (h : OrdM m) (ok : Bool) (name : ByteArray) : OrdM (m.remove ok name).2 := by
  unfold RM.remove
  split
  · exact h
  split
  · exact h.may
  split
  · exact h.may
  · exact h.may.named (h.may.l.without name)
theorem OrdM.syncNames {m : RM} (h : OrdM m) : OrdM m.syncNames.2 := by
  unfold RM.syncNames
  split
  · exact h.may
  · exact ⟨h.may.l, fun st hst => by rw [List.mem_singleton.1 hst]; exact h.may.l⟩
theorem OrdM.crash {m : RM} (h : OrdM m) (names : Int) (stay : List UInt8) (torn cut : Int) : OrdM (m.crash names stay torn cut) := by
  have : Ord (RM.pick m.sts names) := by
    unfold RM.pick
    rw [List.getD_eq_getElem?_getD]
    cases hg : m.sts[(max 0 (min names (m.sts.length - 1))).toNat]? with
    | none => exact List.Pairwise.nil
    | some st => exact h.sts st (List.mem_of_getElem? hg)
  exact ⟨this, fun st hst => by rw [List.mem_singleton.1 hst]; exact this⟩
theorem OrdM.and {x : Nat × RM} {f : RM → Nat × RM} (h : OrdM x.2) (hf : OrdM (f x.2).2) : OrdM (andThen x f).2 := by
  unfold andThen; split <;> assumption
theorem OrdM.put {m : RM} (h : OrdM m) (name : ByteArray) (ls : List (List UInt8)) : OrdM (m.put name ls).2 := by
  have h0 : OrdM (m.put0 name).2 := by unfold RM.put0; split; exact h.remove _ _; exact h
  have h1 : OrdM (m.put1 name).2 := h0.and (h0.create _ _)
  have h2 : OrdM (m.put2 name ls).2 := h1.and (h1.write _ _ _ _)
  have h3 : OrdM (m.put3 name ls).2 := h2.and (h2.sync _ _)
  have h4 : OrdM (m.put4 name ls).2 := h3.and (h3.rename _ _ _)
  exact h4.and h4.syncNames
theorem OrdM.openJ {m : RM} (h : OrdM m) (name : ByteArray) : OrdM (m.openJ name).2 := by
  unfold RM.openJ
  split
  · exact h
  split
  · exact h
  · exact h.put _ _
/-! ## journals -/
namespace RM
def appendJ (name : ByteArray) (m : RM) (x : JN) (b : List UInt8) : Nat × RM × JN :=
  if x.br then (10, m, x) else if 4096 < b.length then (1, m, x) else if 524288 < x.s + (encL b).length then (3, m, x) else
  if (m.write (wOk name (32 + x.s) (encL b).length) name (32 + x.s).toNat (encL b)).1 = 0 then (0, (m.write (wOk name (32 + x.s) (encL b).length) name (32 + x.s).toNat (encL b)).2, { x with s := x.s + (encL b).length })
  else ((m.write (wOk name (32 + x.s) (encL b).length) name (32 + x.s).toNat (encL b)).1, (m.write (wOk name (32 + x.s) (encL b).length) name (32 + x.s).toNat (encL b)).2, { x with br := true })
def com1 (name : ByteArray) (m : RM) : Nat × RM := m.sync (isName name) name
def com2 (name : ByteArray) (m : RM) (next sz : Nat) : Nat × RM := andThen (m.com1 name) fun m => m.write (wOk name ((next % 2 * 16 : Nat) : Int) (headL next sz).length) name (next % 2 * 16) (headL next sz)
def com3 (name : ByteArray) (m : RM) (next sz : Nat) : Nat × RM := andThen (m.com2 name next sz) fun m => m.sync (isName name) name
def commitJ (name : ByteArray) (m : RM) (x : JN) : Nat × RM × JN :=
  if x.br then (10, m, x) else if x.s = x.c then (0, m, x) else if 1073741824 ≤ x.n then (3, m, x)
  else ((m.com3 name (x.n.toNat + 1) x.s.toNat).1, (m.com3 name (x.n.toNat + 1) x.s.toNat).2, if (m.com3 name (x.n.toNat + 1) x.s.toNat).1 = 0 then ⟨((x.n.toNat + 1 : Nat) : Int), x.s, x.s, false⟩ else { x with br := true })
def compactJ (name : ByteArray) (m : RM) (x : JN) (ls : List (List UInt8)) : Nat × RM × JN :=
  if x.br then (10, m, x) else if ls.any (fun b => decide (4096 < b.length)) then (1, m, x) else if 524288 < (ls.flatMap encL).length then (3, m, x)
  else ((m.put name ls).1, (m.put name ls).2, if (m.put name ls).1 = 0 then ⟨1, ((ls.flatMap encL).length : Int), ((ls.flatMap encL).length : Int), false⟩ else { x with br := true })
end RM
def CompactR (name : ByteArray) (A : Ab) (x : JN) (ls : List (List UInt8)) (e : Nat) (A' : Ab) (x' : JN) : Prop :=
  if x.br then e = 10 ∧ A' = A ∧ x' = x else if ls.any (fun b => decide (4096 < b.length)) then e = 1 ∧ A' = A ∧ x' = x else if 524288 < (ls.flatMap encL).length then e = 3 ∧ A' = A ∧ x' = x
  else ∃ y : PS, PutR name ls (A, x.n, x.s, x.c) e y ∧ A' = y.1 ∧ x' = ⟨y.2.1, y.2.2.1, y.2.2.2, decide (e ≠ 0)⟩
theorem Sim.appendJ {A : Ab} {m : RM} (h : Sim A m) (name : ByteArray) (x : JN) (b : List UInt8) :
    (appendA name A x b).1 = (m.appendJ name x b).1 ∧ Sim (appendA name A x b).2.1 (m.appendJ name x b).2.1 ∧ (appendA name A x b).2.2 = (m.appendJ name x b).2.2 := by
  unfold appendA RM.appendJ
  split
  · exact ⟨rfl, h, rfl⟩
  split
  · exact ⟨rfl, h, rfl⟩
  split
  · exact ⟨rfl, h, rfl⟩
  rw [mayW_wOk]
  obtain ⟨h1, h2⟩ := h.write (wOk name (32 + x.s) (encL b).length) name (32 + x.s).toNat (encL b)
  rw [h1]
  split <;> exact ⟨rfl, h2, rfl⟩
theorem Sim.commitJ {A A' : Ab} {m : RM} (h : Sim A m) {name : ByteArray} {x x' : JN} {e : Nat} (hc : CommitR name A x e A' x') : e = (m.commitJ name x).1 ∧ Sim A' (m.commitJ name x).2.1 ∧ x' = (m.commitJ name x).2.2 := by
  unfold CommitR at hc
  unfold RM.commitJ
  split at hc
  · rename_i hb; obtain ⟨rfl, rfl, rfl⟩ := hc; rw [if_pos hb]; exact ⟨rfl, h, rfl⟩
  rename_i hb
  rw [if_neg hb]
  split at hc
  · rename_i h1; obtain ⟨rfl, rfl, rfl⟩ := hc; rw [if_pos h1]; exact ⟨rfl, h, rfl⟩
  rename_i h1
  rw [if_neg h1]
  split at hc
  · rename_i h2; obtain ⟨rfl, rfl, rfl⟩ := hc; rw [if_pos h2]; exact ⟨rfl, h, rfl⟩
  rename_i h2
  rw [if_neg h2]
  obtain ⟨y, hr, rfl, rfl⟩ := hc
  obtain ⟨next, hnext⟩ : ∃ n, n = x.n.toNat + 1 := ⟨_, rfl⟩
  obtain ⟨sz, hsz⟩ : ∃ n, n = x.s.toNat := ⟨_, rfl⟩
  rw [← hnext, ← hsz] at hr ⊢
  have hbr : x.br = false := by simpa using hb
  have key : e = (m.com3 name next sz).1 ∧ Sim y.1 (m.com3 name next sz).2 ∧ y.2 = if e = 0 then ((next : Int), x.s, x.s) else (x.n, x.s, x.c) := by
    have hd3 : ¬ (m.com2 name next sz).1 = 0 → m.com3 name next sz = m.com2 name next sz := fun hh => andThen_no hh _
    have hd2 : ¬ (m.com1 name).1 = 0 → m.com2 name next sz = m.com1 name := fun hh => andThen_no hh _
    refine Runs_step hr (f := fun m => m.com1 name) (m := m) ?_ (Q := fun e y => e = (m.com3 name next sz).1 ∧ Sim y.1 (m.com3 name next sz).2 ∧ y.2 = if e = 0 then ((next : Int), x.s, x.s) else (x.n, x.s, x.c)) ?_ ?_
    · rintro ea xa ⟨⟨h1, h2⟩, h3⟩
      have := h.sync (isName name) name
      exact ⟨h1.trans this.1, h2 ▸ this.2, h3⟩
    · intro ea xa h1 h2 h3 h4
      have hn : ¬ (m.com1 name).1 = 0 := fun hh => h1 (h2.trans hh)
      have e2 := hd2 hn
      have e3 := hd3 (by rw [e2]; exact hn)
      rw [e3, e2, if_neg h1]
      exact ⟨h2, h3, h4⟩
    intro xa h1 hSa hxa hr
    have e2 : m.com2 name next sz = (m.com1 name).2.write (wOk name ((next % 2 * 16 : Nat) : Int) (headL next sz).length) name (next % 2 * 16) (headL next sz) := andThen_ok h1 _
    refine Runs_step hr (f := fun m => m.write (wOk name ((next % 2 * 16 : Nat) : Int) (headL next sz).length) name (next % 2 * 16) (headL next sz)) (m := (m.com1 name).2) ?_ (Q := fun e y => e = (m.com3 name next sz).1 ∧ Sim y.1 (m.com3 name next sz).2 ∧ y.2 = if e = 0 then ((next : Int), x.s, x.s) else (x.n, x.s, x.c)) ?_ ?_
    · rintro eb xb ⟨⟨h1, h2⟩, h3⟩
      have := hSa.write (wOk name ((next % 2 * 16 : Nat) : Int) (headL next sz).length) name (next % 2 * 16) (headL next sz)
      rw [mayW_wOk] at h1 h2
      exact ⟨h1.trans this.1, h2 ▸ this.2, h3⟩
    · intro eb xb h1 h2 h3 h4
      try simp only at h2 h3
      rw [← e2] at h2 h3
      have e3 := hd3 (fun hh => h1 (h2.trans hh))
      rw [e3, if_neg h1]
      exact ⟨h2, h3, h4.trans hxa⟩
    intro xb h1 hSb hxb hr
    try simp only at h1 hSb
    rw [← e2] at h1 hSb
    have e3 : m.com3 name next sz = (m.com2 name next sz).2.sync (isName name) name := andThen_ok h1 _
    refine Runs_step hr (f := fun m => m.sync (isName name) name) (m := (m.com2 name next sz).2) ?_ (Q := fun e y => e = (m.com3 name next sz).1 ∧ Sim y.1 (m.com3 name next sz).2 ∧ y.2 = if e = 0 then ((next : Int), x.s, x.s) else (x.n, x.s, x.c)) ?_ ?_
    · rintro ec xc ⟨⟨h1, h2⟩, h3⟩
      have := hSb.sync (isName name) name
      exact ⟨h1.trans this.1, h2 ▸ this.2, h3⟩
    · intro ec xc h1 h2 h3 h4
      try simp only at h2 h3
      rw [← e3] at h2 h3
      rw [if_neg h1]
      exact ⟨h2, h3, h4.trans (hxb.trans hxa)⟩
    intro xc h1 hSc hxc hr
    try simp only at h1 hSc
    rw [← e3] at h1 hSc
    obtain ⟨ed, xd, ⟨rfl, rfl⟩, h2 | h2⟩ := hr
    · exact absurd rfl h2.1
    · obtain ⟨-, h3⟩ := h2
      obtain ⟨rfl, rfl⟩ := h3
      have e5 : xc.2 = (x.n, x.s, x.c) := hxc.trans (hxb.trans hxa)
      refine ⟨h1.symm, hSc, ?_⟩
      rw [if_pos rfl]
      simp only [e5]
  obtain ⟨h3, h4, h5⟩ := key
  refine ⟨h3, h4, ?_⟩
  rw [← h3, h5]
  by_cases he : e = 0
  · rw [if_pos he, if_pos he]; simp [he]
  · rw [if_neg he, if_neg he]; simp [he]
theorem Sim.compactJ {A A' : Ab} {m : RM} (h : Sim A m) {name : ByteArray} {x x' : JN} {ls : List (List UInt8)} {e : Nat} (hc : CompactR name A x ls e A' x') : e = (m.compactJ name x ls).1 ∧ Sim A' (m.compactJ name x ls).2.1 ∧ x' = (m.compactJ name x ls).2.2 := by
  unfold CompactR at hc
  unfold RM.compactJ
  split at hc
  · rename_i hb; obtain ⟨rfl, rfl, rfl⟩ := hc; rw [if_pos hb]; exact ⟨rfl, h, rfl⟩
  rename_i hb
  rw [if_neg hb]
  split at hc
  · rename_i h1; obtain ⟨rfl, rfl, rfl⟩ := hc; rw [if_pos h1]; exact ⟨rfl, h, rfl⟩
  rename_i h1
  rw [if_neg h1]
  split at hc
  · rename_i h2; obtain ⟨rfl, rfl, rfl⟩ := hc; rw [if_pos h2]; exact ⟨rfl, h, rfl⟩
  rename_i h2
  rw [if_neg h2]
  obtain ⟨y, hr, rfl, rfl⟩ := hc
  obtain ⟨h3, h4, h5⟩ := Sim.put (x := (A, x.n, x.s, x.c)) h hr
  refine ⟨h3, h4, ?_⟩
  rw [← h3, h5]
  have hbr : x.br = false := by simpa using hb
  by_cases he : e = 0
  · rw [if_pos he, if_pos he]; simp [he]
  · rw [if_neg he, if_neg he]; simp [he]
theorem OrdM.appendJ {m : RM} (h : OrdM m) (name : ByteArray) (x : JN) (b : List UInt8) : OrdM (m.appendJ name x b).2.1 := by
  unfold RM.appendJ
  split
  · exact h
  split
  · exact h
  split
  · exact h
  split <;> exact h.write _ _ _ _
theorem OrdM.commitJ {m : RM} (h : OrdM m) (name : ByteArray) (x : JN) : OrdM (m.commitJ name x).2.1 := by
  have h1 : OrdM (m.com1 name).2 := h.sync _ _
  have h2 : ∀ a b, OrdM (m.com2 name a b).2 := fun a b => h1.and (h1.write _ _ _ _)
  have h3 : ∀ a b, OrdM (m.com3 name a b).2 := fun a b => (h2 a b).and ((h2 a b).sync _ _)
  unfold RM.commitJ
  split
  · exact h
  split
  · exact h
  split
  · exact h
  · exact h3 _ _
theorem OrdM.compactJ {m : RM} (h : OrdM m) (name : ByteArray) (x : JN) (ls : List (List UInt8)) : OrdM (m.compactJ name x ls).2.1 := by
  unfold RM.compactJ
  split
  · exact h
  split
  · exact h
  split
  · exact h
  · exact h.put _ _
end Go.Proofs.YtpdmbmnhgcnelaaGreat

/- files, part gg0 (plain): which names there are. -/
set_option linter.unusedVariables false
set_option linter.unusedSimpArgs false
namespace Go.Proofs.YtpdmbmnhgcnelaaGreat
open Go Go.SL
instance memDec (n : ByteArray) (K : List ByteArray) : Decidable (n ∈ K) := decidable_of_iff (K.any (fun x => decide (x = n)) = true) (by rw [List.any_eq_true]; exact ⟨fun ⟨x, hx, h⟩ => of_decide_eq_true h ▸ hx, fun h => ⟨n, h, decide_eq_true rfl⟩⟩)
def keysA (A : Ab) : List ByteArray := A.names.map (·.1)
theorem lookIn_iff {l : List (ByteArray × Nat)} {k : ByteArray} : (Ab.lookIn l k).isSome = true ↔ k ∈ l.map (·.1) := by
  unfold Ab.lookIn
  rw [Option.isSome_map, List.find?_isSome]
  simp [List.mem_map]
theorem keys_del {l : List (ByteArray × Nat)} {k n : ByteArray} : n ∈ (Ab.delN l k).map (·.1) ↔ n ∈ l.map (·.1) ∧ n ≠ k := by
  unfold Ab.delN
  simp only [List.mem_map, List.mem_filter]
  constructor
  · rintro ⟨x, ⟨h1, h2⟩, rfl⟩
    exact ⟨⟨x, h1, rfl⟩, by simpa using h2⟩
  · rintro ⟨⟨x, h1, rfl⟩, h2⟩
    exact ⟨x, ⟨h1, by simpa using h2⟩, rfl⟩
theorem keys_set {l : List (ByteArray × Nat)} {k n : ByteArray} {f : Nat} : n ∈ (Ab.setN l k f).map (·.1) ↔ n ∈ l.map (·.1) ∨ n = k := by
  unfold Ab.setN
  split
  · rename_i h
    have hk := lookIn_iff.1 h
    rw [List.map_map]
    have : (l.map ((fun x => x.1) ∘ fun x => if x.1 = k then (k, f) else x)) = l.map (·.1) := by
      apply List.map_congr_left
      intro x _
      simp only [Function.comp]
      split
      · rename_i h; rw [h]
      · rfl
    rw [this]
    constructor
    · exact .inl
    · rintro (h | rfl)
      · exact h
      · exact hk
  · simp
theorem meet_names (A : Ab) (ok : Bool) : (A.meet ok).2.names = A.names ∧ (A.meet ok).2.states = A.states := by
  unfold Ab.meet
  split
  · exact ⟨rfl, rfl⟩
  · split
    · exact ⟨rfl, rfl⟩
    · split
      · exact ⟨rfl, rfl⟩
      · split
        · exact ⟨rfl, rfl⟩
        · split <;> exact ⟨rfl, rfl⟩
theorem create_names (A : Ab) (ok : Bool) (name : ByteArray) (f : Nat) : (((A.create ok name f).1 = 0 ∧ name ∉ keysA A ∧ ∀ n, n ∈ keysA (A.create ok name f).2 ↔ n ∈ keysA A ∨ n = name) ∨ ((A.create ok name f).1 ≠ 0 ∧ keysA (A.create ok name f).2 = keysA A)) ∧ (A.create ok name f).2.states.length ≤ A.states.length + 1 := by
  obtain ⟨h1, h2⟩ := meet_names A ok
  unfold Ab.create keysA
  split
  · split
    · exact ⟨.inr ⟨by simp, by rw [h1]⟩, by simp only [h2]; omega⟩
    · rename_i hl
      split
      · exact ⟨.inr ⟨by simp, by rw [h1]⟩, by simp only [h2]; omega⟩
      · refine ⟨.inl ⟨rfl, ?_, fun n => ?_⟩, by simp [Ab.chg, h2]⟩
        · intro h
          apply hl
          unfold Ab.look
          rw [h1]
          exact lookIn_iff.2 h
        · simp [Ab.chg, h1]
  · rename_i hm
    exact ⟨.inr ⟨hm, by rw [h1]⟩, by simp only [h2]; omega⟩
theorem find_names (A : Ab) (name : ByteArray) (ok : Bool) : (A.find name ok).2.2.names = A.names ∧ (A.find name ok).2.2.states = A.states ∧ ((A.find name ok).1 = 0 → (∃ f, (A.find name ok).2.1 = some f) ∧ name ∈ keysA A) ∧ ((A.find name ok).1 ≠ 0 → (A.find name ok).2.1 = none) := by
  obtain ⟨h1, h2⟩ := meet_names A ok
  unfold Ab.find
  split
  · split
    · exact ⟨h1, h2, (fun h => by cases h), fun _ => rfl⟩
    · rename_i hm f hl
      refine ⟨h1, h2, fun _ => ⟨⟨f, rfl⟩, ?_⟩, fun h => absurd rfl h⟩
      unfold keysA
      rw [← h1]
      exact lookIn_iff.1 (by unfold Ab.look at hl; rw [hl]; rfl)
  · rename_i hm
    exact ⟨h1, h2, fun h => absurd h hm, fun _ => rfl⟩
theorem remove_names (A : Ab) (ok : Bool) (name : ByteArray) : (((A.remove ok name).1 = 0 ∧ name ∈ keysA A ∧ ∀ n, n ∈ keysA (A.remove ok name).2 ↔ n ∈ keysA A ∧ n ≠ name) ∨ ((A.remove ok name).1 ≠ 0 ∧ keysA (A.remove ok name).2 = keysA A)) ∧ (A.remove ok name).2.states.length ≤ A.states.length + 1 := by
  obtain ⟨h1, h2, h3, h4⟩ := find_names A name ok
  unfold Ab.remove
  rcases hf : A.find name ok with ⟨e, o, A1⟩
  rw [hf] at h1 h2 h3 h4
  simp only at h1 h2 h3 h4
  by_cases he : e = 0
  · subst he
    obtain ⟨⟨f, rfl⟩, hm⟩ := h3 rfl
    simp only
    refine ⟨.inl ⟨trivial, hm, fun n => ?_⟩, by simp [Ab.chg, h2]⟩
    unfold keysA Ab.chg
    simp only
    rw [keys_del, h1]
  · have := h4 he
    subst this
    cases e with
    | zero => exact absurd rfl he
    | succ e => exact ⟨.inr ⟨he, by unfold keysA; simp only; rw [h1]⟩, by simp only [h2]; omega⟩
theorem rename_names (A : Ab) (ok : Bool) (old name : ByteArray) : (((A.rename ok old name).1 = 0 ∧ old ∈ keysA A ∧ ∀ n, n ∈ keysA (A.rename ok old name).2 ↔ (n ∈ keysA A ∧ n ≠ old) ∨ n = name) ∨ ((A.rename ok old name).1 ≠ 0 ∧ keysA (A.rename ok old name).2 = keysA A)) ∧ (A.rename ok old name).2.states.length ≤ A.states.length + 1 := by
  obtain ⟨h1, h2, h3, h4⟩ := find_names A old ok
  unfold Ab.rename
  rcases hf : A.find old ok with ⟨e, o, A1⟩
  rw [hf] at h1 h2 h3 h4
  simp only at h1 h2 h3 h4
  by_cases he : e = 0
  · subst he
    obtain ⟨⟨f, rfl⟩, hm⟩ := h3 rfl
    simp only
    refine ⟨.inl ⟨trivial, hm, fun n => ?_⟩, by simp [Ab.chg, h2]⟩
    unfold keysA Ab.chg
    simp only
    rw [keys_set, keys_del, h1]
  · have := h4 he
    subst this
    cases e with
    | zero => exact absurd rfl he
    | succ e => exact ⟨.inr ⟨he, by unfold keysA; simp only; rw [h1]⟩, by simp only [h2]; omega⟩
/-- The statement's own set, as a map. -/
def TH (es : List (ByteArray × Value)) (K : List ByteArray) : Prop := (∀ n, n ∈ es.map (·.1) ↔ n ∈ K) ∧ ∀ x ∈ es, x.2 = .bool true
theorem TH.look {es : List (ByteArray × Value)} {K : List ByteArray} (h : TH es K) (n : ByteArray) : (alook es n).getD (.bool false) = .bool (decide (n ∈ K)) := by
  by_cases hk : n ∈ K
  · rw [decide_eq_true hk]
    have h1 := (h.1 n).2 hk
    unfold alook
    cases hf : es.find? (fun x => decide (x.1 = n)) with
    | none =>
      obtain ⟨y, hy, rfl⟩ := List.mem_map.1 h1
      exact absurd (List.find?_eq_none.1 hf y hy) (by simp)
    | some y => simp [h.2 y (List.mem_of_find?_eq_some hf)]
  · rw [decide_eq_false hk, alook_none.2 (fun h1 => hk ((h.1 n).1 h1))]; rfl
theorem aset_mem (es : List (ByteArray × Value)) (k n : ByteArray) (v : Value) : n ∈ (aset es k v).map (·.1) ↔ n ∈ es.map (·.1) ∨ n = k := by
  unfold aset
  split
  · rename_i hk
    have : (es.map fun x => if x.1 = k then (k, v) else x).map (·.1) = es.map (·.1) := by
      rw [List.map_map]
      apply List.map_congr_left
      intro x _
      simp only [Function.comp]
      split
      · rename_i h; rw [h]
      · rfl
    rw [this]
    constructor
    · exact .inl
    · rintro (h | rfl)
      · exact h
      · exact hk
  · simp
theorem TH.set {es : List (ByteArray × Value)} {K K' : List ByteArray} {k : ByteArray} (h : TH es K) (hK : ∀ n, n ∈ K' ↔ n ∈ K ∨ n = k) : TH (aset es k (.bool true)) K' := by
  refine ⟨fun n => by rw [aset_mem, h.1, hK], fun x hx => ?_⟩
  unfold aset at hx
  split at hx
  · obtain ⟨y, hy, rfl⟩ := List.mem_map.1 hx
    split
    · rfl
    · exact h.2 y hy
  · rcases List.mem_append.1 hx with h1 | h1
    · exact h.2 x h1
    · simp at h1; subst h1; rfl
theorem TH.del {es : List (ByteArray × Value)} {K K' : List ByteArray} {k : ByteArray} (h : TH es K) (hK : ∀ n, n ∈ K' ↔ n ∈ K ∧ n ≠ k) : TH (adel es k) K' := by
  unfold adel
  refine ⟨fun n => ?_, fun x hx => h.2 x (List.mem_filter.1 hx).1⟩
  rw [hK, ← h.1]
  simp only [List.mem_map, List.mem_filter]
  constructor
  · rintro ⟨x, ⟨h1, h2⟩, rfl⟩
    exact ⟨⟨x, h1, rfl⟩, by simpa using h2⟩
  · rintro ⟨⟨x, h1, rfl⟩, h2⟩
    exact ⟨x, ⟨h1, by simpa using h2⟩, rfl⟩
theorem TH.mono {es : List (ByteArray × Value)} {K K' : List ByteArray} (h : TH es K) (hK : ∀ n, n ∈ K' ↔ n ∈ K) : TH es K' := ⟨fun n => by rw [h.1, hK], h.2⟩
theorem nodup_len2 {α : Type} {a b : List α} (ha : a.Nodup) (hb : b.Nodup) (h : ∀ n, n ∈ a ↔ n ∈ b) : a.length = b.length :=
  ((List.perm_ext_iff_of_nodup ha hb).2 h).length_eq
/-- Names in order, as bytes. -/
def sortB (l : List ByteArray) : List (List UInt8) := (l.map fun b => b.data.toList).mergeSort fun x y => decide (x ≤ y)
theorem sortB_sorted (l : List ByteArray) : (sortB l).Pairwise (· ≤ ·) :=
  (List.pairwise_mergeSort (le := fun x y : List UInt8 => decide (x ≤ y)) (fun a b c h1 h2 => decide_eq_true (List.le_trans (of_decide_eq_true h1) (of_decide_eq_true h2))) (fun a b => by simpa using List.le_total a b) _).imp fun h => of_decide_eq_true h
theorem sortB_perm0 (l : List ByteArray) : (sortB l).Perm (l.map fun b => b.data.toList) := List.mergeSort_perm _ _
theorem sortB_perm {a b : List ByteArray} (h : a.Perm b) : sortB a = sortB b :=
  List.Perm.eq_of_pairwise (fun x y _ _ h1 h2 => List.le_antisymm h1 h2) (sortB_sorted a) (sortB_sorted b) ((sortB_perm0 a).trans ((h.map _).trans (sortB_perm0 b).symm))
theorem sortB_len (l : List ByteArray) : (sortB l).length = l.length := by rw [(sortB_perm0 l).length_eq, List.length_map]
theorem sortB_mem {l : List ByteArray} {x : List UInt8} (h : x ∈ sortB l) : (⟨x.toArray⟩ : ByteArray) ∈ l := by
  obtain ⟨b, hb, rfl⟩ := List.mem_map.1 ((sortB_perm0 l).mem_iff.1 h)
  exact hb
theorem bytes_inj {a b : ByteArray} (h : a.data.toList = b.data.toList) : a = b := by
  cases a; cases b; simp only [ByteArray.mk.injEq]; exact Array.ext' h
theorem sortB_nodup {l : List ByteArray} (h : l.Nodup) : (sortB l).Nodup := by
  refine (sortB_perm0 l).nodup_iff.2 ?_
  unfold List.Nodup at h ⊢
  rw [List.pairwise_map]
  exact h.imp fun hne he => hne (bytes_inj he)
theorem sortB_lt {l : List ByteArray} (h : l.Nodup) {k : Nat} {x y : List UInt8} (hx : (sortB l)[k]? = some x) (hy : (sortB l)[k + 1]? = some y) : x < y := by
  obtain ⟨hk, rfl⟩ := List.getElem?_eq_some_iff.1 hx
  obtain ⟨hk1, rfl⟩ := List.getElem?_eq_some_iff.1 hy
  have h1 := List.pairwise_iff_getElem.1 (sortB_sorted l) k (k + 1) hk hk1 (by omega)
  have h2 := List.pairwise_iff_getElem.1 (sortB_nodup h) k (k + 1) hk hk1 (by omega)
  rcases Decidable.em ((sortB l)[k] < (sortB l)[k + 1]) with h3 | h3
  · exact h3
  · exact absurd (List.le_antisymm h1 (List.not_lt.1 h3)) h2
end Go.Proofs.YtpdmbmnhgcnelaaGreat

/- both disks, plain: bounds behind a crash and the journal's changes; names in order. -/
set_option linter.unusedVariables false
set_option linter.unusedSimpArgs false
namespace Go.Proofs.YtpdmbmnhgcnelaaGreat
open Go Go.SL
theorem kept_len {stay : List UInt8} {torn cut : Int} {i : Nat} {b c : List UInt8} (h : Ab.kept stay torn cut i b = some c) : c.length ≤ b.length := by
  unfold Ab.kept at h
  split at h
  · simp only at h
    split at h
    · cases h
    · cases h; rw [List.length_take]; omega
  · split at h
    · cases h; exact Nat.le_refl _
    · cases h
theorem rlasts_bound (stay : List UInt8) (torn cut : Int) : ∀ (ws : List (Nat × Nat × List UInt8)) (i : Nat) (s : List (List UInt8)), (∀ x ∈ ws, x.2.1 + x.2.2.length ≤ 1048576) → (∀ b ∈ s, b.length ≤ 1048576) → ∀ b ∈ RM.lasts stay torn cut i ws s, b.length ≤ 1048576
  | [], i, s, _, hs => hs
  | w :: ws, i, s, hw, hs => by
    unfold RM.lasts
    split
    · exact rlasts_bound stay torn cut ws (i + 1) s (fun x hx => hw x (List.mem_cons_of_mem _ hx)) hs
    · rename_i c hc
      refine rlasts_bound stay torn cut ws (i + 1) _ (fun x hx => hw x (List.mem_cons_of_mem _ hx)) fun b hb => ?_
      rcases List.mem_or_eq_of_mem_set hb with hb | rfl
      · exact hs b hb
      · have h1 := hw w (List.mem_cons_self ..)
        have h2 := kept_len hc
        have h3 : (s.getD w.1 []).length ≤ 1048576 := by
          rw [List.getD_eq_getElem?_getD]
          cases hg : s[w.1]? with
          | none => simp
          | some b => exact hs b (List.mem_of_getElem? hg)
        rw [wroteL_len]; omega
theorem pick_mem {m : RM} (h : m.sts ≠ []) (names : Int) : RM.pick m.sts names ∈ m.sts := by
  have hpos := List.length_pos_iff.2 h
  unfold RM.pick
  have : (max 0 (min names ((m.sts.length : Int) - 1))).toNat < m.sts.length := by omega
  rw [List.getD_eq_getElem?_getD, List.getElem?_eq_getElem this]
  exact List.getElem_mem _
theorem MOk.crash {m : RM} {k : Nat} (h : MOk m k) (names : Int) (stay : List UInt8) (torn cut : Int) : MOk (m.crash names stay torn cut) k := by
  have hp := pick_mem h.full names
  have hl : (RM.lasts stay torn cut 0 m.wr m.sure).length = m.now.length := by rw [rlasts_len, h.nl]
  have hb := rlasts_bound stay torn cut m.wr 0 m.sure (fun x hx => (h.wr x hx).2) h.sure
  obtain ⟨h1, h2⟩ := h.sts _ hp
  exact ⟨rfl, by show (RM.lasts stay torn cut 0 m.wr m.sure).length ≤ k; rw [hl]; exact h.nk, hb, hb, fun x hx => by show x.2 < (RM.lasts stay torn cut 0 m.wr m.sure).length; rw [hl]; exact h1 x hx, h2,
    fun st hst => by
      rw [List.mem_singleton.1 hst]
      exact ⟨fun x hx => by show x.2 < (RM.lasts stay torn cut 0 m.wr m.sure).length; rw [hl]; exact h1 x hx, h2⟩,
    List.cons_ne_nil _ _, by show 1 ≤ k + 1; omega, fun x hx => (by cases hx), Nat.zero_le _, h.kk, h.room⟩
theorem MOk.plan {m : RM} {k : Nat} (h : MOk m k) (p : List UInt8) : MOk (m.plan p) k := ⟨h.nl, h.nk, h.now, h.sure, h.l, h.ll, h.sts, h.full, h.sk, h.wr, h.wk, h.kk, h.room⟩
theorem MOk.appendJ {m : RM} {k : Nat} (h : MOk m k) (hk : k + 4 ≤ 100000) (name : ByteArray) (x : JN) (b : List UInt8) : MOk (m.appendJ name x b).2.1 (k + 4) := by
  have h0 := h.up (k' := k + 4) (by omega) hk
  have hw : MOk (m.write (wOk name (32 + x.s) (encL b).length) name (32 + x.s).toNat (encL b)).2 (k + 4) := (h.write (by omega) _ _ _ _ (fun hh => wOk_bound hh)).up (by omega) hk
  unfold RM.appendJ
  split
  · exact h0
  split
  · exact h0
  split
  · exact h0
  split <;> exact hw
theorem MOk.commitJ {m : RM} {k : Nat} (h : MOk m k) (hk : k + 4 ≤ 100000) (name : ByteArray) (x : JN) : MOk (m.commitJ name x).2.1 (k + 4) := by
  have h0 := h.up (k' := k + 4) (by omega) hk
  have h1 : MOk (m.com1 name).2 k := h.sync _ _
  have h2 : ∀ a b, MOk (m.com2 name a b).2 (k + 1) := fun a b => by
    unfold RM.com2 andThen
    split
    · refine h1.write (by omega) _ _ _ _ (fun hh => ?_)
      have := wOk_bound hh
      rwa [Int.toNat_natCast] at this
    · exact h1.up (by omega) (by omega)
  have h3 : ∀ a b, MOk (m.com3 name a b).2 (k + 1) := fun a b => by
    unfold RM.com3 andThen
    split
    · exact (h2 a b).sync _ _
    · exact h2 a b
  unfold RM.commitJ
  split
  · exact h0
  split
  · exact h0
  split
  · exact h0
  · exact (h3 _ _).up (by omega) hk
theorem MOk.compactJ {m : RM} {k : Nat} (h : MOk m k) (hk : k + 4 ≤ 100000) (name : ByteArray) (x : JN) (ls : List (List UInt8)) : MOk (m.compactJ name x ls).2.1 (k + 4) := by
  have h0 := h.up (k' := k + 4) (by omega) hk
  unfold RM.compactJ
  split
  · exact h0
  split
  · exact h0
  split
  · exact h0
  · exact h.put hk _ _
/-- The names of both, in order. -/
theorem Sim.names {A : Ab} {m : RM} (h : Sim A m) (ho : OrdM m) : sortB (keysA A) = m.l.map fun x => x.1.data.toList := by
  obtain ⟨σ, h⟩ := h
  have hp : (keysA A).Perm (m.l.map (·.1)) := h.names.keys
  have hp2 : (sortB (keysA A)).Perm (m.l.map fun x => x.1.data.toList) := by
    have h1 := (sortB_perm0 (keysA A)).trans (hp.map fun b => b.data.toList)
    rwa [List.map_map] at h1
  refine List.Perm.eq_of_pairwise (le := fun x y : List UInt8 => x ≤ y) (fun x y _ _ h1 h2 => List.le_antisymm h1 h2) (sortB_sorted _) ?_ hp2
  rw [List.pairwise_map]
  exact ho.l.imp fun hxy => List.le_of_lt ((ltS_iff _ _).1 hxy)
end Go.Proofs.YtpdmbmnhgcnelaaGreat

/- both disks: a plan. -/
set_option linter.unusedVariables false
set_option linter.unusedSimpArgs false
namespace Go.Proofs.YtpdmbmnhgcnelaaGreat
open Go Go.SL
attribute [local irreducible] J K Ctr Ends pts slc mapR mapI sbRow stock arrS

theorem mPlan_any (br : Nat) (D : RDk) (m : RM) (hR : RR D m) (X : HP) (bv : Value) (b : List UInt8) (hv : Vw X bv b.length (bV b)) (hb : b.length ≤ 1000000000) :
    Ctr Tryz.prog 38 [ptr br, bv] [rd br D, X] (fun v H => ∃ D', RR D' (m.plan b) ∧ v = .tuple #[] ∧ H = [rd br D', X]) := by
  obtain ⟨a0, c0, rfl⟩ := hv.shape
  obtain ⟨room, now, sure, lv, sts, wrs, nxt, down, nowL, sureL, stsL, wl, arrs, nrows⟩ := D
  refine Ctr.enter Tryz.func38 (by kernel_rfl) rfl Tryz.ntmps38 rfl rfl ?_
  intro G F R hE
  (refine K_ent (rd_o _ _ _ _ _ _ _ _ _ _ _ _ _ _ _ _) ?_)
  (refine go ?_)
  refine J_buildSlice1 (U := tab) rfl rfl rfl rfl rfl rfl rfl rfl rfl (fun _ _ _ => trivial) ?_
  intro b0
  (refine go ?_)
  refine J_ent (slc_row 5 1 b0 0 0 [] [] _ rfl (Nat.le_refl _) (by simp)) ?_
  refine J_append (U := tab) (mm := b.length) (news := bV b) 0 8 rfl rfl rfl rfl rfl rfl rfl rfl rfl rfl rfl rfl hv (by show _ = _ * 1; rw [bV_length]; omega) (bV_one b) (by omega) (by show _ * 1 ≤ _; omega) (fun _ => rfl) (fun _ _ _ => trivial) ?_
  intro v1
  have e1 : (0 : Nat) + b.length = b.length := by omega
  rw [e1, List.nil_append]
  refine J_shape 0 rfl ?_
  rintro a1 c1 rfl
  (refine go ?_)
  refine K_ent (Ent.pick [0, 2] rfl) ?_
  refine K_ent (Ent.join _ _ _) ?_
  refine K_open (arrS_slcO 5 _ b _) ?_
  rintro arrs' ⟨hb', hsub⟩
  (refine K_ent (Ent.pick ([1, 0, 2, 3, 4, 5, 6]) rfl) ?_; refine K_ent (rd_c _ _ _ _ _ _ _ _ _ _ _ _ _ _ _ _) ?_)
  refine K_fallEnd hE Tryz.func38 rfl _ rfl ⟨_, (hR.setArrs hsub).setN hb', rfl, rfl⟩ (Ent.fin [0, 1] 0 rfl rfl)
theorem Rel.setArrs' {D : Dk} {A : Ab} (h : Rel D A) {arrs' : Arrs} (hs : ∀ x ∈ D.arrs, x ∈ arrs') : Rel { D with arrs := arrs' } A :=
  ⟨h.room, h.off, h.names, h.states, h.fs.mono fun x y hxy => ⟨hxy.1, hxy.2.1.mono hs, hxy.2.2.mono hs⟩, h.writes.mono fun x y hxy => ⟨hxy.1, hxy.2.1, hxy.2.2.mono hs⟩, h.plan.mono hs, h.ids, h.known, h.knownW, h.nodup, h.smallF, h.smallW, h.smallN, h.smallR, h.smallP, h.full⟩
theorem dPlan_any (bd : Nat) (D : Dk) (A : Ab) (hR : Rel D A) (X : HP) (bv : Value) (b : List UInt8) (hv : Vw X bv b.length (bV b)) (hb : b.length ≤ 1000000000) :
    Ctr Tryz.prog 37 [ptr bd, bv] [disk bd D, X] (fun v H => ∃ D', Rel D' { A with plan := b } ∧ v = .tuple #[] ∧ H = [disk bd D', X]) := by
  obtain ⟨a0, c0, rfl⟩ := hv.shape
  obtain ⟨room, bm, sts, wrs, pln, off, maps, arrs, files, stb, wl⟩ := D
  refine Ctr.enter Tryz.func37 (by kernel_rfl) rfl Tryz.ntmps37 rfl rfl ?_
  intro G F R hE
  refine K_ent (disk_o _ _ _ _ _ _ _ _ _ _ _ _ _) ?_
  (refine go ?_)
  (first | refine J_callE rfl rfl rfl rfl (Clone_bytes X _ b hv hb) entA ?_ (fun _ _ _ _ _ => trivial) | refine J_call0E rfl rfl rfl (Clone_bytes X _ b hv hb) entA ?_ (fun _ _ _ _ _ => trivial) | (refine go ?_; first | refine J_callE rfl rfl rfl rfl (Clone_bytes X _ b hv hb) entA ?_ (fun _ _ _ _ _ => trivial) | refine J_call0E rfl rfl rfl (Clone_bytes X _ b hv hb) entA ?_ (fun _ _ _ _ _ => trivial)))
  rintro v1 _ rfl
  refine J_shape 0 rfl ?_
  rintro a1 c1 rfl
  (refine go ?_)
  refine K_ent (Ent.pick [0, 4] rfl) ?_
  refine K_ent (Ent.join _ _ _) ?_
  refine K_open (arrS_slcO 5 _ b _) ?_
  rintro arrs' ⟨hb', hsub⟩
  refine K_ent (Ent.pick [2, 3, 0, 4, 5, 6] rfl) ?_
  refine K_ent (disk_c _ _ _ _ _ _ _ _ _ _ _ _ _) ?_
  (first | refine K_return hE Tryz.func37 rfl _ rfl ⟨_, (hR.setArrs' hsub).setPlan' hb' hb, rfl, rfl⟩ entA | refine K_fallEnd hE Tryz.func37 rfl _ rfl ⟨_, (hR.setArrs' hsub).setPlan' hb' hb, rfl, rfl⟩ entA)
theorem Plan_rM (br : Nat) (m : RM) (X : HP) (bv : Value) (b : List UInt8) (hv : Vw X bv b.length (bV b)) (hb : b.length ≤ 1000000000) :
    Ctr Tryz.prog 38 [ptr br, bv] [rdM br m, X] (fun v H => v = .tuple #[] ∧ H = [rdM br (m.plan b), X]) :=
  ctr_rd (by kernel_rfl) (fun D hR => mPlan_any br D m hR X bv b hv hb) (by rintro v H ⟨D', hR, rfl, rfl⟩; exact ⟨_, ⟨rfl, rfl⟩, rdM_in hR _⟩)
theorem Plan_dA (bd : Nat) (A : Ab) (X : HP) (bv : Value) (b : List UInt8) (hv : Vw X bv b.length (bV b)) (hb : b.length ≤ 1000000000) :
    Ctr Tryz.prog 37 [ptr bd, bv] [diskA bd A, X] (fun v H => v = .tuple #[] ∧ H = [diskA bd { A with plan := b }, X]) :=
  ctr_disk (by kernel_rfl) (fun D hR => dPlan_any bd D A hR X bv b hv hb) (by rintro v H ⟨D', hR, rfl, rfl⟩; exact ⟨_, ⟨rfl, rfl⟩, diskA_in hR _⟩)
end Go.Proofs.YtpdmbmnhgcnelaaGreat

/- both disks: their names, and whether these are the same. -/
set_option linter.unusedVariables false
set_option linter.unusedSimpArgs false
namespace Go.Proofs.YtpdmbmnhgcnelaaGreat
open Go Go.SL
def strL (l : List ByteArray) : List Value := l.map Value.string
theorem strL_get {l : List ByteArray} {i : Nat} {x : ByteArray} (h : l[i]? = some x) : (strL l)[i]? = some (.string x) := by simp [strL, h]
attribute [local irreducible] J K Ctr Ends pts slc mapR mapI sbRow stock arrS loopP CtrY diskA LI listH

theorem SameNames_any (A B : HP) (v1 v2 : Value) (l1 l2 : List ByteArray) (h1 : Vw A v1 l1.length (strL l1)) (h2 : Vw B v2 l2.length (strL l2)) (hl : l1.length ≤ 1000000000) :
    Ctr Tryz.prog 44 [v1, v2] [A, B] (fun r H => r = .bool (decide (l1 = l2)) ∧ H = [A, B]) := by
  obtain ⟨a1, c1, rfl⟩ := h1.shape
  obtain ⟨a2, c2, rfl⟩ := h2.shape
  refine Ctr.enter Tryz.func44 (by kernel_rfl) rfl Tryz.ntmps44 rfl rfl ?_
  intro G F R hE
  (refine go ?_)
  refine K_condP rfl rfl ?_ ?_
  · intro hne
    rw [decide_eq_false (show ¬ l1 = l2 from fun e => by subst e; exact hne rfl)] at hE
    (refine go ?_)
    (first | refine K_return hE Tryz.func44 rfl _ rfl ⟨rfl, rfl⟩ entA | refine K_fallEnd hE Tryz.func44 rfl _ rfl ⟨rfl, rfl⟩ entA)
  intro heqn
  have hlen : l1.length = l2.length := by omega
  (refine go ?_)
  refine K_loop (fun i : Nat => i ≤ l1.length ∧ ∀ j, j < i → l1[j]? = l2[j]?) (fun i => l1.length - i)
    (fun i => [(0, .slice a1 l1.length c1), (1, .slice a2 l2.length c2), (5, .int .i64 (i : Int))])
    (fun _ => A :: B :: F) 0 ⟨Nat.zero_le _, fun j hj => by omega⟩ rfl (by repeat (first | exact keep_nil | refine keep_cons rfl ?_)) entA ?_
  rintro i ⟨hi, heq⟩ ih
  (refine go ?_)
  refine K_condP rfl rfl ?_ ?_
  case' refine_2.refine_2 =>
    intro hge
    have hie : i = l1.length := by omega
    rw [decide_eq_true (show l1 = l2 from List.ext_getElem? fun j => by
      rcases Nat.lt_or_ge j l1.length with h | h
      · exact heq j (by omega)
      · rw [List.getElem?_eq_none (by omega), List.getElem?_eq_none (by omega)])] at hE
    (refine go ?_)
    (first | refine K_return hE Tryz.func44 rfl _ rfl ⟨rfl, rfl⟩ entA | refine K_fallEnd hE Tryz.func44 rfl _ rfl ⟨rfl, rfl⟩ entA)
  intro hlt
  have hi1 : i < l1.length := by omega
  have hi2 : i < l2.length := by omega
  obtain ⟨x, hx⟩ : ∃ x, l1[i]? = some x := ⟨l1[i], by simp⟩
  obtain ⟨y, hy⟩ : ∃ y, l2[i]? = some y := ⟨l2[i], by simp⟩
  have hcx := strL_get hx
  have hcy := strL_get hy
  obtain ⟨b1, o1, k1, hs1⟩ := h1.some (by intro e; rw [e] at hcx; simp at hcx)
  obtain ⟨b2, o2, k2, hs2⟩ := h2.some (by intro e; rw [e] at hcy; simp at hcy)
  simp only [Value.slice.injEq, true_and] at hs1 hs2
  obtain ⟨rfl, rfl⟩ := hs1
  obtain ⟨rfl, rfl⟩ := hs2
  (refine go ?_)
  refine K_drawA (fun w => Sat G w ([A, B])) (sts 0 9 .nil) rfl (by kernel_rfl) (by kernel_rfl) (by kernel_rfl) (fun w hw => hw.ent entA) ?_
  (refine go ?_)
  refine J_at1 (U := tab) i rfl rfl rfl rfl rfl rfl rfl rfl hi1 ?_
  refine J_isLoad ?_
  refine J_loadAtS (U := tab) 0 i rfl rfl rfl h1 rfl hcx rfl rfl ?_
  (refine go ?_)
  refine J_at1 (U := tab) i rfl rfl rfl rfl rfl rfl rfl rfl hi2 ?_
  refine J_isLoad ?_
  refine J_loadAtS (U := tab) 1 i rfl rfl rfl h2 rfl hcy rfl rfl ?_
  (refine go ?_)
  refine K_condA rfl rfl ?_ ?_
  · intro hxy
    have hne : ¬ x = y := fun e => by rw [eqS_iff.2 e] at hxy; cases hxy
    rw [decide_eq_false (show ¬ l1 = l2 from fun e => by subst e; rw [hx] at hy; cases hy; exact hne rfl)] at hE
    (refine go ?_)
    (first | refine K_return hE Tryz.func44 rfl _ rfl ⟨rfl, rfl⟩ entA | refine K_fallEnd hE Tryz.func44 rfl _ rfl ⟨rfl, rfl⟩ entA)
  intro hxy
  have hxy' : x = y := by
    cases h : eqS x y with
    | true => exact eqS_iff.1 h
    | false => rw [h] at hxy; cases hxy
  (refine go ?_)
  refine K_again ih (i + 1) rfl (⟨by omega, fun j hj => by
    rcases Nat.lt_or_ge j i with h | h
    · exact heq j h
    · have : j = i := by omega
      subst this
      rw [hx, hy, hxy']⟩) (by omega) (by repeat (first | exact keep_nil | refine keep_cons rfl ?_)) entA
set_option maxRecDepth 20000 in
/-- The names in their order. -/
theorem mNames_any (br k : Nat) (D : RDk) (m : RM) (hR : RR D m) (hM : MOk m k) : Ctr Tryz.prog 43 [ptr br] [rd br D] (fun v H => H = [slc 9 1 v (m.l.map (·.1)).length (strL (m.l.map (·.1))), rd br D]) := by
  obtain ⟨room, now, sure, lv, sts, wrs, nxt, down, nowL, sureL, stsL, wl, arrs, nrows⟩ := D
  have hl := hR.l
  have hlk := hM.ll
  have hkk := hM.kk
  generalize m.l = l at hl hlk
  simp only at hl
  obtain ⟨a, cap, rfl, hcap⟩ := hl.shape
  have hv := hl.view 111
  refine Ctr.enter Tryz.func43 (by kernel_rfl) rfl Tryz.ntmps43 rfl rfl ?_
  intro G F R hE
  refine K_ent (rd_o _ _ _ _ _ _ _ _ _ _ _ _ _ _ _ _) ?_
  (refine go ?_)
  refine K_ent (slc_lift 9 1 none _) ?_
  refine K_loop (fun s : Nat × List ByteArray × Option Addr × Nat => s.1 ≤ l.length ∧ s.2.1 = (l.take s.1).map (·.1)) (fun s => l.length - s.1) (fun s => [(0, ptr br), (3, .slice s.2.2.1 s.2.1.length s.2.2.2), (4, .int .i64 s.1)])
    (fun s => slc 9 1 (.slice s.2.2.1 s.2.1.length s.2.2.2) s.2.1.length (strL s.2.1) :: pts br (cl [.int .i64 room, now, sure, .slice a l.length cap, sts, wrs, nxt, .bool down] 61) :: arrS 5 arrs :: arrS 111 nrows ::
        slc 40 1 now nowL.length nowL :: slc 40 1 sure sureL.length sureL :: slc 58 1 sts stsL.length stsL :: slc 83 3 wrs wl.length (wl.flatMap wcell) :: F) (0, [], none, 0) ⟨Nat.zero_le _, rfl⟩ rfl (by repeat (first | exact keep_nil | refine keep_cons rfl ?_)) entA ?_
  rintro ⟨i, l', a', c'⟩ ⟨hi, hsub⟩ ih
  simp only at hi hsub
  have hlen : l'.length = i := by rw [hsub, List.length_map, List.length_take]; omega
  (refine go ?_)
  refine K_condP rfl rfl ?_ ?_
  · intro hlt
    have hi' : i < l.length := by omega
    obtain ⟨x, hx⟩ : ∃ x, l[i]? = some x := ⟨l[i], by simp⟩
    have hg : ∀ q, q < 2 → (l.flatMap ncell)[i * 2 + q]? = (ncell x)[q]? := fun q hq => chunk_get ncell_len hx q hq
    obtain ⟨bb, oo, cc, hsl⟩ := hv.some (by rw [← List.length_pos_iff, chunk_len ncell_len]; omega)
    simp only [Value.slice.injEq, true_and] at hsl
    obtain ⟨rfl, rfl⟩ := hsl
    (refine go ?_)
    refine J_at (U := tab) i 2 rfl rfl rfl rfl rfl rfl rfl rfl hi' ?_
    (refine go ?_)
    refine J_loadAt (U := tab) 3 (i * 2 + 0) rfl rfl rfl hv (Nat.add_assoc _ _ _) (hg 0 (by omega)) rfl rfl ?_
    (refine go ?_)
    refine J_buildSlice1 (U := tab) (cs := [.string x.1]) rfl rfl rfl rfl rfl rfl rfl rfl rfl (fun _ _ _ => trivial) ?_
    intro b1
    refine J_append (U := tab) (mm := 1) (news := [.string x.1]) 1 0 rfl rfl rfl rfl rfl rfl rfl rfl rfl rfl rfl rfl (Vw.pts rfl) rfl (by simp [Value.oneCell']) (by simp only; omega) (by show _ * 16 ≤ _; simp only; omega) (fun _ => rfl) (fun _ _ _ => trivial) ?_
    intro v'
    rw [show strL l' ++ [Value.string x.1] = strL (l' ++ [x.1]) from by simp [strL], show l'.length + 1 = (l' ++ [x.1]).length from by simp]
    refine J_shape 1 rfl ?_
    rintro a2 c2 rfl
    (refine go ?_)
    refine K_again ih (i + 1, l' ++ [x.1], a2, c2) rfl ⟨by simp only; omega, by simp only; rw [hsub, List.take_add_one, hx]; simp⟩ (by simp only; omega) (by repeat (first | exact keep_nil | refine keep_cons rfl ?_)) entA
  · intro hge
    simp only at hge
    have hfin : l' = l.map (·.1) := by rw [hsub, List.take_of_length_le (by omega)]
    subst hfin
    (refine go ?_)
    refine K_ent (Ent.pick [1, 2, 3, 4, 5, 6, 7, 0] rfl) ?_
    refine K_ent (rd_c _ _ _ _ _ _ _ _ _ _ _ _ _ _ _ _) ?_
    (first | refine K_return hE Tryz.func43 rfl _ rfl rfl entA | refine K_fallEnd hE Tryz.func43 rfl _ rfl rfl entA)
end Go.Proofs.YtpdmbmnhgcnelaaGreat

/- the reference's journal: broke, Append. -/
set_option linter.unusedVariables false
set_option linter.unusedSimpArgs false
namespace Go.Proofs.YtpdmbmnhgcnelaaGreat
open Go Go.SL
def rjH (jb br : Nat) (name : ByteArray) (x : JN) : HP := pts jb (cl [ptr br, .string name, .int .i64 x.n, .int .i64 x.s, .int .i64 x.c, .bool x.br] 48)
attribute [local irreducible] J K Ctr Ends pts slc mapR mapI sbRow stock arrS loopP CtrY diskA LI listH rdM

theorem refBroke_any (jb br : Nat) (name : ByteArray) (x : JN) (e : Nat) :
    Ctr Tryz.prog 76 [ptr jb, .int .i64 (e : Int)] [rjH jb br name x] (fun r H => r = .int .i64 (e : Int) ∧ H = [rjH jb br name (if e = 0 then x else { x with br := true })]) := by
  obtain ⟨n, s, c, b⟩ := x
  dsimp only [rjH]
  refine Ctr.enter Tryz.func76 (by kernel_rfl) rfl Tryz.ntmps76 rfl rfl ?_
  intro G F R hE
  by_cases he : e = 0
  · subst he
    simp only [if_true] at hE
    (refine go ?_)
    (first | refine K_return hE Tryz.func76 rfl _ rfl ⟨rfl, rfl⟩ entA | refine K_fallEnd hE Tryz.func76 rfl _ rfl ⟨rfl, rfl⟩ entA)
  · rw [if_neg he] at hE
    repeat' (first | (with_reducible intro _hh) | refine go1 ?_ | refine J_fork ?_ ?_ | refine J_gsP rfl rfl rfl rfl ?_ ?_ | refine K_condP rfl rfl ?_ ?_)
    · (first | refine K_return hE Tryz.func76 rfl _ rfl ⟨rfl, rfl⟩ entA | refine K_fallEnd hE Tryz.func76 rfl _ rfl ⟨rfl, rfl⟩ entA)
    · exfalso; omega
set_option maxRecDepth 20000 in
theorem refAppend_any (jb br k : Nat) (name : ByteArray) (hname : name.size ≤ 9223372036854775807) (m : RM) (hM : MOk m k) (x : JN) (X : HP) (bv : Value) (b : List UInt8) (hv : BAt X bv b) (hl : b.length ≤ 9223372036854775807) (hs : 0 ≤ x.s ∧ x.s ≤ 1000000000) :
    Ctr Tryz.prog 32 [ptr jb, bv] [rdM br m, rjH jb br name x, X]
      (fun r H => r = .int .i64 ((m.appendJ name x b).1 : Int) ∧ H = [rdM br (m.appendJ name x b).2.1, rjH jb br name (m.appendJ name x b).2.2, X]) := by
  obtain ⟨n, s, c, bk⟩ := x
  obtain ⟨a, cc, rfl, hc⟩ := hv.2
  simp only at hs
  dsimp only [rjH]
  refine Ctr.enter Tryz.func32 (by kernel_rfl) rfl Tryz.ntmps32 rfl rfl ?_
  intro G F R hE
  dsimp only [RM.appendJ] at hE
  cases bk with
  | true =>
    simp only [if_true] at hE
    (refine go ?_)
    (first | refine K_return hE Tryz.func32 rfl _ rfl ⟨rfl, rfl⟩ entA | refine K_fallEnd hE Tryz.func32 rfl _ rfl ⟨rfl, rfl⟩ entA)
  | false =>
    simp only [Bool.false_eq_true, if_false] at hE
    (refine go ?_)
    refine K_condP rfl rfl ?_ ?_
    · intro hbig
      rw [if_pos (by omega)] at hE
      (refine go ?_)
      (first | refine K_return hE Tryz.func32 rfl _ rfl ⟨rfl, rfl⟩ entA | refine K_fallEnd hE Tryz.func32 rfl _ rfl ⟨rfl, rfl⟩ entA)
    intro hsm
    have hb4 : b.length ≤ 4096 := by omega
    have hel := encL_len b (by omega)
    rw [if_neg (by omega)] at hE
    (refine go ?_)
    (first | refine J_callE rfl rfl rfl rfl (refRecord_any X _ b hv (by omega)) entA ?_ (fun _ _ _ _ _ => trivial) | refine J_call0E rfl rfl rfl (refRecord_any X _ b hv (by omega)) entA ?_ (fun _ _ _ _ _ => trivial) | (refine go ?_; first | refine J_callE rfl rfl rfl rfl (refRecord_any X _ b hv (by omega)) entA ?_ (fun _ _ _ _ _ => trivial) | refine J_call0E rfl rfl rfl (refRecord_any X _ b hv (by omega)) entA ?_ (fun _ _ _ _ _ => trivial)))
    rintro r _ rfl
    (first | refine J_shape 0 rfl ?_ | refine K_shape 0 rfl ?_)
    rintro ra rc rfl
    refine J_slcB (bs := encL b) 0 rfl ?_
    intro hbr
    (refine go ?_)
    refine K_condP rfl rfl ?_ ?_
    · intro hbig
      rw [if_pos (by omega)] at hE
      (refine go ?_)
      (first | refine K_return hE Tryz.func32 rfl _ rfl ⟨rfl, rfl⟩ entA | refine K_fallEnd hE Tryz.func32 rfl _ rfl ⟨rfl, rfl⟩ entA)
    intro hfit
    rw [if_neg (by omega)] at hE
    (refine go ?_)
    refine K_drawA (fun w => Sat G w ([pts jb (cl [ptr br, .string name, .int .i64 n, .int .i64 s, .int .i64 c, .bool false] 48)])) (sts 0 14 (.act 14 (.st 15 .nil))) rfl (by kernel_rfl) (by kernel_rfl) (by kernel_rfl) (fun w hw => hw.ent entA) ?_
    (refine go ?_)
    obtain ⟨W, hW⟩ : ∃ W, W = m.write (wOk name (32 + s) (encL b).length) name (32 + s).toNat (encL b) := ⟨_, rfl⟩
    have hwr := Write_rM br k m hM name hname (32 + s) (by omega) (slc 5 1 (.slice ra (encL b).length rc) (encL b).length (bV (encL b))) (.slice ra (encL b).length rc) (encL b) hbr.1 (by omega)
    rw [← hW] at hE hwr
    (first | refine J_callE rfl rfl rfl rfl (hwr) entA ?_ (fun _ _ w hp hw => by obtain ⟨rfl, rfl⟩ := hp; exact hw.ent entA) | refine J_call0E rfl rfl rfl (hwr) entA ?_ (fun _ _ w hp hw => by obtain ⟨rfl, rfl⟩ := hp; exact hw.ent entA))
    rintro _ _ ⟨rfl, rfl⟩
    (refine go ?_)
    refine K_condP rfl rfl ?_ ?_
    · intro hne
      have hne' : ¬ W.1 = 0 := by omega
      rw [if_neg hne'] at hE
      (refine go ?_)
      have hbk := refBroke_any jb br name ⟨n, s, c, false⟩ W.1
      rw [if_neg hne'] at hbk
      (first | refine J_callE rfl rfl rfl rfl (hbk) entA ?_ (fun _ _ _ _ _ => trivial) | refine J_call0E rfl rfl rfl (hbk) entA ?_ (fun _ _ _ _ _ => trivial) | (refine go ?_; first | refine J_callE rfl rfl rfl rfl (hbk) entA ?_ (fun _ _ _ _ _ => trivial) | refine J_call0E rfl rfl rfl (hbk) entA ?_ (fun _ _ _ _ _ => trivial)))
      rintro _ _ ⟨rfl, rfl⟩
      (refine go ?_)
      (first | refine K_return hE Tryz.func32 rfl _ rfl ⟨rfl, rfl⟩ entA | refine K_fallEnd hE Tryz.func32 rfl _ rfl ⟨rfl, rfl⟩ entA)
    intro heq
    have heq' : W.1 = 0 := by omega
    rw [if_pos heq'] at hE
    (refine go ?_)
    (first | refine K_return hE Tryz.func32 rfl _ rfl ⟨rfl, rfl⟩ entA | refine K_fallEnd hE Tryz.func32 rfl _ rfl ⟨rfl, rfl⟩ entA)
end Go.Proofs.YtpdmbmnhgcnelaaGreat

/- the reference's journal: Commit. -/
set_option linter.unusedVariables false
set_option linter.unusedSimpArgs false
namespace Go.Proofs.YtpdmbmnhgcnelaaGreat
open Go Go.SL
attribute [local irreducible] J K Ctr Ends pts slc mapR mapI sbRow stock arrS loopP CtrY diskA LI listH rdM

set_option maxRecDepth 20000 in
theorem refCommit_any (jb br k : Nat) (name : ByteArray) (hname : name.size ≤ 9223372036854775807) (m : RM) (hM : MOk m k) (hk : k + 4 ≤ 100000) (x : JN) (hs : 0 ≤ x.s ∧ x.s ≤ 1000000000) (hn : 0 ≤ x.n) :
    Ctr Tryz.prog 34 [ptr jb] [rdM br m, rjH jb br name x]
      (fun r H => r = .int .i64 ((m.commitJ name x).1 : Int) ∧ H = [rdM br (m.commitJ name x).2.1, rjH jb br name (m.commitJ name x).2.2]) := by
  obtain ⟨n, s, c, bk⟩ := x
  simp only at hs hn
  obtain ⟨n, rfl⟩ := Int.eq_ofNat_of_zero_le hn
  obtain ⟨s, rfl⟩ := Int.eq_ofNat_of_zero_le hs.1
  dsimp only [rjH]
  have h1 : MOk (m.com1 name).2 k := hM.sync _ _
  refine Ctr.enter Tryz.func34 (by kernel_rfl) rfl Tryz.ntmps34 rfl rfl ?_
  intro G F R hE
  dsimp only [RM.commitJ] at hE
  cases bk with
  | true =>
    simp only [if_true] at hE
    (refine go ?_)
    (first | refine K_return hE Tryz.func34 rfl _ rfl ⟨rfl, rfl⟩ entA | refine K_fallEnd hE Tryz.func34 rfl _ rfl ⟨rfl, rfl⟩ entA)
  | false =>
    simp only [Bool.false_eq_true, if_false, Int.toNat_natCast] at hE
    (refine go ?_)
    refine K_drawA (fun w => Sat G w ([pts jb (cl [ptr br, .string name, .int .i64 n, .int .i64 s, .int .i64 c, .bool false] 48)])) (sts 0 10 .nil) rfl (by kernel_rfl) (by kernel_rfl) (by kernel_rfl) (fun w hw => hw.ent entA) ?_
    (refine go ?_)
    refine K_condP rfl rfl ?_ ?_
    · intro heq
      rw [if_pos heq] at hE
      (refine go ?_)
      (first | refine K_return hE Tryz.func34 rfl _ rfl ⟨rfl, rfl⟩ entA | refine K_fallEnd hE Tryz.func34 rfl _ rfl ⟨rfl, rfl⟩ entA)
    intro hne
    rw [if_neg hne] at hE
    (refine go ?_)
    refine K_condP rfl rfl ?_ ?_
    · intro hbig
      rw [if_pos (by omega)] at hE
      (refine go ?_)
      (first | refine K_return hE Tryz.func34 rfl _ rfl ⟨rfl, rfl⟩ entA | refine K_fallEnd hE Tryz.func34 rfl _ rfl ⟨rfl, rfl⟩ entA)
    intro hsm
    rw [if_neg (by omega)] at hE
    (refine go ?_)
    refine K_drawA (fun w => Sat G w ([pts jb (cl [ptr br, .string name, .int .i64 n, .int .i64 s, .int .i64 c, .bool false] 48)])) (sts 0 8 (.act 8 (.st 9 .nil))) rfl (by kernel_rfl) (by kernel_rfl) (by kernel_rfl) (fun w hw => hw.ent entA) ?_
    (refine go ?_)
    (first | refine J_callE rfl rfl rfl rfl ((Sync_rM br k m hM name hname)) entA ?_ (fun _ _ w hp hw => by obtain ⟨rfl, rfl⟩ := hp; exact hw.ent entA) | refine J_call0E rfl rfl rfl ((Sync_rM br k m hM name hname)) entA ?_ (fun _ _ w hp hw => by obtain ⟨rfl, rfl⟩ := hp; exact hw.ent entA))
    rintro _ _ ⟨rfl, rfl⟩
    obtain ⟨W1, hW1⟩ : ∃ W, W = m.com1 name := ⟨_, rfl⟩
    rw [show m.sync (isName name) name = W1 from hW1.symm]
    rw [← hW1] at h1
    by_cases hz1 : W1.1 = 0
    case neg =>
      have e2 : m.com2 name (n + 1) s = W1 := by rw [hW1]; exact andThen_no (by rw [← hW1]; exact hz1) _
      have e3 : m.com3 name (n + 1) s = W1 := by rw [← e2]; exact andThen_no (by rw [e2]; exact hz1) _
      rw [e3, if_neg hz1] at hE
      have hbk := refBroke_any jb br name ⟨n, s, c, false⟩ W1.1
      rw [if_neg hz1] at hbk
      repeat' (first | (with_reducible intro _hh) | refine go1 ?_ | refine J_fork ?_ ?_ | refine J_gsP rfl rfl rfl rfl ?_ ?_ | refine K_condP rfl rfl ?_ ?_)
      all_goals first
        | (exfalso; omega)
        | ((first | refine J_callE rfl rfl rfl rfl (hbk) entA ?_ (fun _ _ _ _ _ => trivial) | refine J_call0E rfl rfl rfl (hbk) entA ?_ (fun _ _ _ _ _ => trivial) | (refine go ?_; first | refine J_callE rfl rfl rfl rfl (hbk) entA ?_ (fun _ _ _ _ _ => trivial) | refine J_call0E rfl rfl rfl (hbk) entA ?_ (fun _ _ _ _ _ => trivial)))
           rintro _ _ ⟨rfl, rfl⟩
           (refine go ?_)
           (first | refine K_return hE Tryz.func34 rfl _ rfl ⟨rfl, rfl⟩ entA | refine K_fallEnd hE Tryz.func34 rfl _ rfl ⟨rfl, rfl⟩ entA))
    rw [hz1]
    have e2 : m.com2 name (n + 1) s = W1.2.write (wOk name (((n + 1) % 2 * 16 : Nat) : Int) (headL (n + 1) s).length) name ((n + 1) % 2 * 16) (headL (n + 1) s) := by
      rw [hW1] at hz1 ⊢; exact andThen_ok hz1 _
    (refine go ?_)
    refine K_drawA (fun w => Sat G w ([pts jb (cl [ptr br, .string name, .int .i64 n, .int .i64 s, .int .i64 c, .bool false] 48)])) (sts 0 24 (.act 24 (.act 25 (.st 26 .nil)))) rfl (by kernel_rfl) (by kernel_rfl) (by kernel_rfl) (fun w hw => hw.ent entA) ?_
    (repeat (first | refine go1 ?_ | refine J_fork ?_ ?_ | refine J_rem rfl rfl rfl (by omega) (by omega) ?_))
    refine J_mul rfl rfl rfl (by simp only [inK]; omega) ?_
    (first | refine J_slot 50 ((.int .i64 (((n + 1) % 2 * 16 : Nat) : Int))) rfl ((congrArg (Value.int .i64) (by omega))) ?_ | refine K_slot 50 ((.int .i64 (((n + 1) % 2 * 16 : Nat) : Int))) rfl ((congrArg (Value.int .i64) (by omega))) ?_)
    (refine go ?_)
    (first | refine J_slot 55 ((.int .i64 ((n + 1 : Nat) : Int))) rfl ((congrArg (Value.int .i64) (by omega))) ?_ | refine K_slot 55 ((.int .i64 ((n + 1 : Nat) : Int))) rfl ((congrArg (Value.int .i64) (by omega))) ?_)
    (first | refine J_callE rfl rfl rfl rfl ((refHead_any (n + 1) s (by omega) (by omega))) entA ?_ (fun _ _ w hp hw => by obtain rfl := hp; exact hw.ent entA) | refine J_call0E rfl rfl rfl ((refHead_any (n + 1) s (by omega) (by omega))) entA ?_ (fun _ _ w hp hw => by obtain rfl := hp; exact hw.ent entA))
    rintro hvv _ rfl
    (first | refine J_shape 0 rfl ?_ | refine K_shape 0 rfl ?_)
    rintro ha hc rfl
    refine J_slcB (bs := headL (n + 1) s) 0 rfl ?_
    intro hbh
    have hhl : (headL (n + 1) s).length = 16 := rfl
    (refine go ?_)
    obtain ⟨W2, hW2⟩ : ∃ W, W = m.com2 name (n + 1) s := ⟨_, rfl⟩
    have hwr := Write_rM br k W1.2 h1 name hname (((n + 1) % 2 * 16 : Nat) : Int) (by omega) (slc 5 1 (.slice ha (headL (n + 1) s).length hc) (headL (n + 1) s).length (bV (headL (n + 1) s))) (.slice ha (headL (n + 1) s).length hc) (headL (n + 1) s) hbh.1 (by omega)
    rw [Int.toNat_natCast, ← e2, ← hW2] at hwr
    (first | refine J_callE rfl rfl rfl rfl (hwr) entA ?_ (fun _ _ w hp hw => by obtain ⟨rfl, rfl⟩ := hp; exact hw.ent entA) | refine J_call0E rfl rfl rfl (hwr) entA ?_ (fun _ _ w hp hw => by obtain ⟨rfl, rfl⟩ := hp; exact hw.ent entA))
    rintro _ _ ⟨rfl, rfl⟩
    have h2 : MOk W2.2 (k + 1) := by
      rw [hW2, e2]
      exact h1.write (by omega) _ _ _ _ (fun hh => by have := wOk_bound hh; rwa [Int.toNat_natCast] at this)
    by_cases hz2 : W2.1 = 0
    case neg =>
      have e3 : m.com3 name (n + 1) s = W2 := by rw [hW2]; exact andThen_no (by rw [← hW2]; exact hz2) _
      rw [e3, if_neg hz2] at hE
      have hbk := refBroke_any jb br name ⟨n, s, c, false⟩ W2.1
      rw [if_neg hz2] at hbk
      repeat' (first | (with_reducible intro _hh) | refine go1 ?_ | refine J_fork ?_ ?_ | refine J_gsP rfl rfl rfl rfl ?_ ?_ | refine K_condP rfl rfl ?_ ?_)
      all_goals first
        | (exfalso; omega)
        | ((first | refine J_callE rfl rfl rfl rfl (hbk) entA ?_ (fun _ _ _ _ _ => trivial) | refine J_call0E rfl rfl rfl (hbk) entA ?_ (fun _ _ _ _ _ => trivial) | (refine go ?_; first | refine J_callE rfl rfl rfl rfl (hbk) entA ?_ (fun _ _ _ _ _ => trivial) | refine J_call0E rfl rfl rfl (hbk) entA ?_ (fun _ _ _ _ _ => trivial)))
           rintro _ _ ⟨rfl, rfl⟩
           (refine go ?_)
           (first | refine K_return hE Tryz.func34 rfl _ rfl ⟨rfl, rfl⟩ entA | refine K_fallEnd hE Tryz.func34 rfl _ rfl ⟨rfl, rfl⟩ entA))
    rw [hz2]
    have e3 : m.com3 name (n + 1) s = W2.2.sync (isName name) name := by
      rw [hW2] at hz2 ⊢; exact andThen_ok hz2 _
    (refine go ?_)
    refine K_drawA (fun w => Sat G w ([pts jb (cl [ptr br, .string name, .int .i64 n, .int .i64 s, .int .i64 c, .bool false] 48)])) (sts 0 8 (.act 8 (.st 9 .nil))) rfl (by kernel_rfl) (by kernel_rfl) (by kernel_rfl) (fun w hw => hw.ent entA) ?_
    (refine go ?_)
    (first | refine J_callE rfl rfl rfl rfl ((Sync_rM br (k + 1) W2.2 h2 name hname)) entA ?_ (fun _ _ w hp hw => by obtain ⟨rfl, rfl⟩ := hp; exact hw.ent entA) | refine J_call0E rfl rfl rfl ((Sync_rM br (k + 1) W2.2 h2 name hname)) entA ?_ (fun _ _ w hp hw => by obtain ⟨rfl, rfl⟩ := hp; exact hw.ent entA))
    rintro _ _ ⟨rfl, rfl⟩
    obtain ⟨W3, hW3⟩ : ∃ W, W = W2.2.sync (isName name) name := ⟨_, rfl⟩
    rw [e3, ← hW3] at hE
    rw [← hW3]
    by_cases hz3 : W3.1 = 0
    case neg =>
      rw [if_neg hz3] at hE
      have hbk := refBroke_any jb br name ⟨n, s, c, false⟩ W3.1
      rw [if_neg hz3] at hbk
      repeat' (first | (with_reducible intro _hh) | refine go1 ?_ | refine J_fork ?_ ?_ | refine J_gsP rfl rfl rfl rfl ?_ ?_ | refine K_condP rfl rfl ?_ ?_)
      all_goals first
        | (exfalso; omega)
        | ((first | refine J_callE rfl rfl rfl rfl (hbk) entA ?_ (fun _ _ _ _ _ => trivial) | refine J_call0E rfl rfl rfl (hbk) entA ?_ (fun _ _ _ _ _ => trivial) | (refine go ?_; first | refine J_callE rfl rfl rfl rfl (hbk) entA ?_ (fun _ _ _ _ _ => trivial) | refine J_call0E rfl rfl rfl (hbk) entA ?_ (fun _ _ _ _ _ => trivial)))
           rintro _ _ ⟨rfl, rfl⟩
           (refine go ?_)
           (first | refine K_return hE Tryz.func34 rfl _ rfl ⟨rfl, rfl⟩ entA | refine K_fallEnd hE Tryz.func34 rfl _ rfl ⟨rfl, rfl⟩ entA))
    rw [if_pos hz3] at hE
    rw [hz3] at hE ⊢
    have hbk := refBroke_any jb br name ⟨((n + 1 : Nat) : Int), s, s, false⟩ 0
    rw [if_pos rfl] at hbk
    (refine go ?_)
    (first | refine J_callE rfl rfl rfl rfl (hbk) entA ?_ (fun _ _ _ _ _ => trivial) | refine J_call0E rfl rfl rfl (hbk) entA ?_ (fun _ _ _ _ _ => trivial) | (refine go ?_; first | refine J_callE rfl rfl rfl rfl (hbk) entA ?_ (fun _ _ _ _ _ => trivial) | refine J_call0E rfl rfl rfl (hbk) entA ?_ (fun _ _ _ _ _ => trivial)))
    rintro _ _ ⟨rfl, rfl⟩
    (refine go ?_)
    (first | refine K_return hE Tryz.func34 rfl _ rfl ⟨rfl, rfl⟩ entA | refine K_fallEnd hE Tryz.func34 rfl _ rfl ⟨rfl, rfl⟩ entA)
end Go.Proofs.YtpdmbmnhgcnelaaGreat

/- The shelf's contracts laid at this seat (numbers as the kit's own command finds them). -/
namespace Go.Proofs.YtpdmbmnhgcnelaaGreat
open Go Go.Shelf
def sortS_ren : Go.Shelf.Ren := ⟨fun | 54 => 110 | 64 => 120 | 65 => 119 | 78 => 133 | 79 => 134 | 80 => 124 | 81 => 125 | 82 => 126 | 83 => 127 | 84 => 128 | 85 => 129 | 61 => 130 | 86 => 131 | 87 => 132 | 93 => 135 | 89 => 136 | 90 => 137 | 94 => 138 | 95 => 139 | 69 => 140 | 97 => 141 | n => n, fun | 25 => 88 | 26 => 9 | 3 => 3 | 51 => 78 | 0 => 0 | 67 => 144 | 69 => 117 | 4 => 4 | 61 => 151 | 60 => 150 | 44 => 156 | 5 => 5 | 9 => 9 | 75 => 160 | 79 => 164 | 83 => 166 | 84 => 167 | n => n, fun | n => n⟩
theorem sortS : Go.Proofs.SlLaysN.n54 Tryz.prog sortS_ren := {
  mixed := by kernel_rfl,
  f54 := ⟨Tryz.f110.name, by decide, Tryz.func110.trans (congrArg some (by kernel_rfl))⟩,
  f61 := ⟨Tryz.f130.name, by decide, Tryz.func130.trans (congrArg some (by kernel_rfl))⟩,
  f64 := Tryz.func120.trans (congrArg some (by kernel_rfl)),
  f65 := ⟨Tryz.f119.name, by decide, Tryz.func119.trans (congrArg some (by kernel_rfl))⟩,
  f69 := ⟨Tryz.f140.name, by decide, Tryz.func140.trans (congrArg some (by kernel_rfl))⟩,
  f78 := Tryz.func133.trans (congrArg some (by kernel_rfl)),
  f79 := Tryz.func134.trans (congrArg some (by kernel_rfl)),
  f80 := ⟨Tryz.f124.name, by decide, Tryz.func124.trans (congrArg some (by kernel_rfl))⟩,
  f81 := ⟨Tryz.f125.name, by decide, Tryz.func125.trans (congrArg some (by kernel_rfl))⟩,
  f82 := ⟨Tryz.f126.name, by decide, Tryz.func126.trans (congrArg some (by kernel_rfl))⟩,
  f83 := ⟨Tryz.f127.name, by decide, Tryz.func127.trans (congrArg some (by kernel_rfl))⟩,
  f84 := ⟨Tryz.f128.name, by decide, Tryz.func128.trans (congrArg some (by kernel_rfl))⟩,
  f85 := ⟨Tryz.f129.name, by decide, Tryz.func129.trans (congrArg some (by kernel_rfl))⟩,
  f86 := ⟨Tryz.f131.name, by decide, Tryz.func131.trans (congrArg some (by kernel_rfl))⟩,
  f87 := ⟨Tryz.f132.name, by decide, Tryz.func132.trans (congrArg some (by kernel_rfl))⟩,
  f89 := Tryz.func136.trans (congrArg some (by kernel_rfl)),
  f90 := Tryz.func137.trans (congrArg some (by kernel_rfl)),
  f93 := ⟨Tryz.f135.name, by decide, Tryz.func135.trans (congrArg some (by kernel_rfl))⟩,
  f94 := ⟨Tryz.f138.name, by decide, Tryz.func138.trans (congrArg some (by kernel_rfl))⟩,
  f95 := ⟨Tryz.f139.name, by decide, Tryz.func139.trans (congrArg some (by kernel_rfl))⟩,
  f97 := ⟨Tryz.f141.name, by decide, Tryz.func141.trans (congrArg some (by kernel_rfl))⟩,
  t0 := Tryz.underlying0,
  a0 := Tryz.isAgg0,
  z0 := Tryz.sizeOf0,
  v0 := Tryz.zeroValue0,
  t3 := Tryz.underlying3,
  a3 := Tryz.isAgg3,
  z3 := Tryz.sizeOf3,
  v3 := Tryz.zeroValue3,
  t4 := Tryz.underlying4,
  a4 := Tryz.isAgg4,
  z4 := Tryz.sizeOf4,
  v4 := Tryz.zeroValue4,
  t5 := Tryz.underlying5,
  a5 := Tryz.isAgg5,
  z5 := Tryz.sizeOf5,
  v5 := Tryz.zeroValue5,
  t9 := Tryz.underlying9,
  a9 := Tryz.isAgg9,
  z9 := Tryz.sizeOf9,
  v9 := Tryz.zeroValue9,
  t25 := Tryz.underlying88,
  a25 := Tryz.isAgg88,
  z25 := Tryz.sizeOf88,
  v25 := Tryz.zeroValue88,
  t26 := Tryz.underlying9,
  a26 := Tryz.isAgg9,
  z26 := Tryz.sizeOf9,
  v26 := Tryz.zeroValue9,
  t44 := Tryz.underlying156,
  a44 := Tryz.isAgg156,
  z44 := Tryz.sizeOf156,
  v44 := Tryz.zeroValue156,
  t51 := Tryz.underlying78,
  a51 := Tryz.isAgg78,
  z51 := Tryz.sizeOf78,
  v51 := Tryz.zeroValue78,
  t60 := Tryz.underlying150,
  a60 := Tryz.isAgg150,
  z60 := Tryz.sizeOf150,
  v60 := Tryz.zeroValue150,
  t61 := Tryz.underlying151,
  a61 := Tryz.isAgg151,
  z61 := Tryz.sizeOf151,
  v61 := Tryz.zeroValue151,
  t67 := Tryz.underlying144,
  a67 := Tryz.isAgg144,
  z67 := Tryz.sizeOf144,
  v67 := Tryz.zeroValue144,
  t69 := Tryz.underlying117,
  a69 := Tryz.isAgg117,
  z69 := Tryz.sizeOf117,
  v69 := Tryz.zeroValue117,
  t75 := Tryz.underlying160,
  a75 := Tryz.isAgg160,
  z75 := Tryz.sizeOf160,
  v75 := Tryz.zeroValue160,
  t79 := Tryz.underlying164,
  a79 := Tryz.isAgg164,
  z79 := Tryz.sizeOf164,
  v79 := Tryz.zeroValue164,
  t83 := Tryz.underlying166,
  a83 := Tryz.isAgg166,
  z83 := Tryz.sizeOf166,
  v83 := Tryz.zeroValue166,
  t84 := Tryz.underlying167,
  a84 := Tryz.isAgg167,
  z84 := Tryz.sizeOf167,
  v84 := Tryz.zeroValue167 }
end Go.Proofs.YtpdmbmnhgcnelaaGreat

/- files, part gg1: Names: the keys of a map, in order. -/
set_option linter.unusedVariables false
set_option linter.unusedSimpArgs false
namespace Go.Proofs.YtpdmbmnhgcnelaaGreat
open Go Go.SL
def sS (l : List ByteArray) : List Value := l.map Value.string
theorem sS_one (l : List ByteArray) : ∀ v ∈ sS l, v.oneCell' = true := by
  intro v hv
  obtain ⟨x, _, rfl⟩ := List.mem_map.1 hv
  rfl
/-- A slice of strings that grows, in a box. -/
def SI (bs : Nat) (ks : List ByteArray) : HP := fun h => ∃ v : Value, True ∧ Sep [pts bs (cl [v] 88), slc 9 1 v ks.length (sS ks)] h
theorem SI_open (bs : Nat) (ks : List ByteArray) : ∀ h, SI bs ks h → ∃ v : Value, True ∧ Sep [pts bs (cl [v] 88), slc 9 1 v ks.length (sS ks)] h := fun h hs => hs
theorem SI_close (bs : Nat) (ks : List ByteArray) (v : Value) (H : List HP) : Ent (pts bs (cl [v] 88) :: slc 9 1 v ks.length (sS ks) :: H) (SI bs ks :: H) :=
  Ent.fold (A := SI bs ks) (B := [pts bs (cl [v] 88), slc 9 1 v ks.length (sS ks)]) fun h hs => ⟨h, sub.refl h, v, trivial, hs⟩
theorem kStr' : KeyOk Tryz.prog 9 Value.string := keyStr Tryz.underlying9
attribute [local irreducible] J K Ctr Ends pts slc mapR mapI sbRow stock arrS loopP CtrY SI

theorem Keys_any (bm : Nat) : Ctr Tryz.prog 89 [.map (some bm)] [] (fun r H => ∃ bx, r = .func (.func 111) #[] #[ptr bx] ∧ H = [pts bx (cl [.map (some bm)] 52)]) := by
  refine Ctr.enter Tryz.func89 (by kernel_rfl) rfl Tryz.ntmps89 rfl rfl ?_
  intro G F R hE
  (refine go ?_)
  refine J_box rfl rfl (fun _ _ _ => trivial) ?_
  intro bx
  (refine go ?_)
  (first | refine K_return hE Tryz.func89 rfl _ rfl ⟨bx, rfl, rfl⟩ entA | refine K_fallEnd hE Tryz.func89 rfl _ rfl ⟨bx, rfl, rfl⟩ entA)
theorem Keys1_any (l bx bm : Nat) (es : List (ByteArray × Value)) (hnd : (es.map (·.1)).Nodup) (Lp : HP) (Inv : List ByteArray → HP)
    (hy : ∀ dn k, k ∈ es.map (·.1) → dn.length < es.length → CtrY Tryz.prog l [.string k] [Lp, Inv dn] (fun v H => v = .bool true ∧ H = [Lp, Inv (dn ++ [k])])) :
    Ctr Tryz.prog 111 [.func (.yield l) #[] #[], ptr bx] [Lp, pts bx (cl [.map (some bm)] 52), mapR Value.string bm es, Inv [] ] (fun _ H => ∃ dn : List ByteArray, dn.Perm (es.map (·.1)) ∧ H = [Lp, pts bx (cl [.map (some bm)] 52), mapR Value.string bm es, Inv dn]) := by
  refine Ctr.enter Tryz.func111 (by kernel_rfl) rfl Tryz.ntmps111 rfl rfl ?_
  intro G F R hE
  refine K_ent (Ent.pick [2, 0, 1] rfl) ?_
  (refine go ?_)
  refine J_range (kv := Value.string) (es := es) (U := tab) 0 rfl rfl rfl rfl rfl (fun _ => rfl) (fun _ _ _ => trivial) ?_
  intro it
  (refine go ?_)
  refine K_loop (fun s : List ByteArray => s.Nodup ∧ ∀ x ∈ s, x ∈ es.map (·.1)) (fun s => es.length - s.length) (fun s => [(0, .func (.yield l) #[] #[]), (5, .pointer (some ⟨it, 0, none⟩))])
    (fun s => mapI Value.string bm it es s :: Lp :: pts bx (cl [.map (some bm)] 52) :: Inv s.reverse :: F) [] ⟨List.nodup_nil, by simp⟩ rfl (by repeat (first | exact keep_nil | refine keep_cons rfl ?_)) entA ?_
  rintro dn ⟨hdn, hsub⟩ ih
  (refine go ?_)
  refine J_next (kv := Value.string) (es := es) 0 rfl kStr'.inj rfl rfl (fun _ => rfl) (fun _ _ => trivial) (fun _ _ _ => trivial) ?_ ?_
  · intro hall
    (refine go ?_)
    refine K_ent (Ent.head (B := [mapR Value.string bm es]) (fun h hs => by obtain ⟨h', s, hm⟩ := mapI_mapR h hs; exact ⟨h', s, Sep_one' hm⟩)) ?_
    have hp : dn.reverse.Perm (es.map (·.1)) := (List.reverse_perm dn).trans ((List.perm_ext_iff_of_nodup hdn hnd).2 fun a => ⟨hsub a, fun h => by obtain ⟨y, hy, rfl⟩ := List.mem_map.1 h; exact hall y hy⟩)
    (first | refine K_return hE Tryz.func111 rfl _ rfl ⟨_, hp, rfl⟩ entA | refine K_fallEnd hE Tryz.func111 rfl _ rfl ⟨_, hp, rfl⟩ entA)
  · intro key v hmem hnot
    have hk : key ∈ es.map (·.1) := List.mem_map.2 ⟨_, hmem, rfl⟩
    have hlt : dn.length < es.length := by
      have h1 : ((List.filter (fun x => decide (x ∈ dn)) (es.map (·.1)))).length ≤ (es.map (·.1)).length := List.length_filter_le _ _
      have h2 : dn.length = (List.filter (fun x => decide (x ∈ dn)) (es.map (·.1))).length := nodup_len2 hdn (hnd.sublist List.filter_sublist) (fun n => by
        simp only [List.mem_filter, decide_eq_true_eq]
        exact ⟨fun h => ⟨hsub n h, h⟩, fun h => h.2⟩)
      rw [List.length_map] at h1
      rcases Nat.lt_or_ge dn.length es.length with h | h
      · exact h
      · exfalso
        have h3 : (List.filter (fun x => decide (x ∈ dn)) (es.map (·.1))).length = (es.map (·.1)).length := by rw [List.length_map]; omega
        have h4 := List.filter_eq_self.1 ((List.filter_sublist (p := fun x => decide (x ∈ dn)) (l := es.map (·.1))).eq_of_length h3) key hk
        exact hnot (of_decide_eq_true h4)
    (refine go ?_)
    refine J_entry (kv := Value.string) (es := es) 0 rfl kStr'.inj rfl rfl hmem ?_
    (refine go ?_)
    refine J_yield rfl rfl rfl (hy dn.reverse key hk (by rw [List.length_reverse]; exact hlt)) entA ?_ (fun _ _ _ _ _ => trivial)
    rintro _ _ ⟨rfl, rfl⟩
    rw [show dn.reverse ++ [key] = (key :: dn).reverse from by simp]
    (refine go ?_)
    refine K_again ih (key :: dn) rfl (⟨List.nodup_cons.2 ⟨hnot, hdn⟩, fun x hx => by rcases List.mem_cons.1 hx with rfl | h; exact hk; exact hsub x h⟩) (by show _ - (key :: dn).length < _; simp only [List.length_cons]; omega) (by repeat (first | exact keep_nil | refine keep_cons rfl ?_)) entA
theorem AppendSeq_any (bx bm : Nat) (es : List (ByteArray × Value)) (hnd : (es.map (·.1)).Nodup) (hes : es.length ≤ 1000000) :
    Ctr Tryz.prog 118 [.slice none 0 0, .func (.func 111) #[] #[ptr bx] ] [pts bx (cl [.map (some bm)] 52), mapR Value.string bm es] (fun r H => ∃ dn : List ByteArray, dn.Perm (es.map (·.1)) ∧ H = [slc 9 1 r dn.length (sS dn), pts bx (cl [.map (some bm)] 52), mapR Value.string bm es]) := by
  refine Ctr.enter Tryz.func118 (by kernel_rfl) rfl Tryz.ntmps118 rfl rfl ?_
  intro G F R hE
  refine K_regionA rfl ?_
  refine J_box rfl rfl (fun _ _ _ => trivial) ?_
  intro bs
  (refine go ?_)
  refine K_adv1 rfl ?_
  refine K_ent (Ent.trans (Ent.cons _ (slc_lift 9 1 none _)) (SI_close bs [] (.slice none 0 0) _)) ?_
  refine K_range (Fr := F) (Pre := fun _ _ => [pts bx (cl [.map (some bm)] 52), mapR Value.string bm es, SI bs [] ]) (Post := ?Po) rfl hE.1.1 rfl ?c (fun l r => entA) ?hend
  case c =>
    intro l r
    refine Keys1_any l bx bm es hnd _ (fun dn => SI bs dn) ?_
    intro dn k hk hlt
    refine CtrY.of_K rfl rfl ?_
    intro G2 F2 R2 hY
    (refine go ?_)
    refine K_beginRound rfl hY ?_
    refine K_ent (Ent.pick [1] rfl) ?_
    refine K_open (SI_open bs dn) ?_
    rintro v -
    refine K_shape 1 rfl ?_
    rintro va vc rfl
    (refine go ?_)
    refine J_buildSlice1 (U := tab) (cs := sS [k]) rfl rfl rfl rfl rfl rfl rfl rfl rfl (fun _ _ _ => trivial) ?_
    intro row
    (refine go ?_)
    refine J_append (U := tab) (mm := 1) (news := sS [k]) 2 0 rfl rfl rfl rfl rfl rfl rfl rfl rfl rfl rfl rfl (Vw.pts rfl) rfl (sS_one _) (by omega) (by show (_ + 1) * 16 ≤ _; omega) (fun _ => rfl) (fun _ _ _ => trivial) ?_
    intro v1
    rw [show sS dn ++ sS [k] = sS (dn ++ [k]) from by simp [sS], show dn.length + 1 = (dn ++ [k]).length from by simp]
    (first | refine J_shape 2 rfl ?_ | refine K_shape 2 rfl ?_)
    rintro va2 vc2 rfl
    (refine go ?_)
    refine K_ent (Ent.trans entA (SI_close bs (dn ++ [k]) (.slice va2 (dn ++ [k]).length vc2) _)) ?_
    refine K_roundEnd hY rfl entA ⟨rfl, rfl⟩
  intro l r v H hpost
  obtain ⟨dn, hp, rfl⟩ := hpost
  refine ⟨_, _, _, rfl, by decide, ?_⟩
  rw [hE.1.2]
  refine K_ent (Ent.pick [2] rfl) ?_
  refine K_open (SI_open bs dn) ?_
  rintro w -
  (refine go ?_)
  refine K_returnM hE Tryz.func118 rfl _ rfl ⟨dn, hp, rfl⟩ entA
theorem Collect_any (bx bm : Nat) (es : List (ByteArray × Value)) (hnd : (es.map (·.1)).Nodup) (hes : es.length ≤ 1000000) :
    Ctr Tryz.prog 109 [.func (.func 111) #[] #[ptr bx] ] [pts bx (cl [.map (some bm)] 52), mapR Value.string bm es] (fun r H => ∃ dn : List ByteArray, dn.Perm (es.map (·.1)) ∧ H = [slc 9 1 r dn.length (sS dn), pts bx (cl [.map (some bm)] 52), mapR Value.string bm es]) := by
  refine Ctr.enter Tryz.func109 (by kernel_rfl) rfl Tryz.ntmps109 rfl rfl ?_
  intro G F R hE
  (refine go ?_)
  (first | refine J_callE rfl rfl rfl rfl (AppendSeq_any bx bm es hnd hes) entA ?_ (fun _ _ _ _ _ => trivial) | refine J_call0E rfl rfl rfl (AppendSeq_any bx bm es hnd hes) entA ?_ (fun _ _ _ _ _ => trivial) | (refine go ?_; first | refine J_callE rfl rfl rfl rfl (AppendSeq_any bx bm es hnd hes) entA ?_ (fun _ _ _ _ _ => trivial) | refine J_call0E rfl rfl rfl (AppendSeq_any bx bm es hnd hes) entA ?_ (fun _ _ _ _ _ => trivial)))
  rintro w _ ⟨dn, hp, rfl⟩
  (refine go ?_)
  (first | refine K_return hE Tryz.func109 rfl _ rfl ⟨dn, hp, rfl⟩ entA | refine K_fallEnd hE Tryz.func109 rfl _ rfl ⟨dn, hp, rfl⟩ entA)
def nS (l : List (List UInt8)) : List Value := l.map Go.Proofs.encStr
theorem sS_nS (l : List ByteArray) : sS l = nS (l.map fun b => b.data.toList) := by
  unfold sS nS
  rw [List.map_map]
  rfl
theorem SortS_any (v : Value) (l : List ByteArray) (hl : l.length ≤ 1000000000) : Ctr Tryz.prog 110 [v] [slc 9 1 v l.length (sS l)] (fun r H => r = .tuple #[] ∧ H = [slc 9 1 v l.length (nS (sortB l))]) := by
  have h := sortStr_ctr (ρ := sortS_ren) sortS 9 v (l.map fun b => b.data.toList) (by kernel_rfl) (by rw [List.length_map]; omega)
  rw [List.length_map] at h
  rw [sS_nS]
  exact h
theorem Sorted_any (bx bm : Nat) (es : List (ByteArray × Value)) (hnd : (es.map (·.1)).Nodup) (hes : es.length ≤ 1000000) :
    Ctr Tryz.prog 88 [.func (.func 111) #[] #[ptr bx] ] [pts bx (cl [.map (some bm)] 52), mapR Value.string bm es] (fun r H => H = [slc 9 1 r es.length (nS (sortB (es.map (·.1)))), pts bx (cl [.map (some bm)] 52), mapR Value.string bm es]) := by
  refine Ctr.enter Tryz.func88 (by kernel_rfl) rfl Tryz.ntmps88 rfl rfl ?_
  intro G F R hE
  (refine go ?_)
  (first | refine J_callE rfl rfl rfl rfl (Collect_any bx bm es hnd hes) entA ?_ (fun _ _ _ _ _ => trivial) | refine J_call0E rfl rfl rfl (Collect_any bx bm es hnd hes) entA ?_ (fun _ _ _ _ _ => trivial) | (refine go ?_; first | refine J_callE rfl rfl rfl rfl (Collect_any bx bm es hnd hes) entA ?_ (fun _ _ _ _ _ => trivial) | refine J_call0E rfl rfl rfl (Collect_any bx bm es hnd hes) entA ?_ (fun _ _ _ _ _ => trivial)))
  rintro w _ ⟨dn, hp, rfl⟩
  have hlen : dn.length = es.length := by rw [hp.length_eq, List.length_map]
  (first | refine J_shape 0 rfl ?_ | refine K_shape 0 rfl ?_)
  rintro wa wc rfl
  (refine go ?_)
  (first | refine J_callE rfl rfl rfl rfl (SortS_any (.slice wa dn.length wc) dn (by omega)) entA ?_ (fun _ _ _ _ _ => trivial) | refine J_call0E rfl rfl rfl (SortS_any (.slice wa dn.length wc) dn (by omega)) entA ?_ (fun _ _ _ _ _ => trivial) | (refine go ?_; first | refine J_callE rfl rfl rfl rfl (SortS_any (.slice wa dn.length wc) dn (by omega)) entA ?_ (fun _ _ _ _ _ => trivial) | refine J_call0E rfl rfl rfl (SortS_any (.slice wa dn.length wc) dn (by omega)) entA ?_ (fun _ _ _ _ _ => trivial)))
  rintro _ _ ⟨rfl, rfl⟩
  rw [sortB_perm hp, hlen]
  (refine go ?_)
  (first | refine K_return hE Tryz.func88 rfl _ rfl rfl entA | refine K_fallEnd hE Tryz.func88 rfl _ rfl rfl entA)
theorem Names_any (bd : Nat) (D : Dk) (A : Ab) (hR : Rel D A) : Ctr Tryz.prog 45 [ptr bd] [disk bd D] (fun r H => H = [slc 9 1 r (keysA A).length (nS (sortB (keysA A))), disk bd D]) := by
  have hnd := hR.nodup _ (List.mem_cons_self ..)
  have hsm := hR.smallN _ (List.mem_cons_self ..)
  have hkeys : (ptrs A.names).map (·.1) = keysA A := by simp [ptrs, keysA, Function.comp_def]
  have hkl : (ptrs A.names).length = (keysA A).length := by simp [ptrs, keysA]
  have hsl : (keysA A).length ≤ 200 := by unfold keysA; rw [List.length_map]; exact hsm
  obtain ⟨jm, hjm⟩ := List.getElem?_of_mem hR.names
  obtain ⟨room, bm, sts, wrs, pln, off, maps, arrs, files, stb, wl⟩ := D
  simp only at hjm
  refine Ctr.enter Tryz.func45 (by kernel_rfl) rfl Tryz.ntmps45 rfl rfl ?_
  intro G F R hE
  refine K_ent (disk_o _ _ _ _ _ _ _ _ _ _ _ _ _) ?_
  (refine go ?_)
  (first | refine J_callE rfl rfl rfl rfl (Keys_any bm) entA ?_ (fun _ _ _ _ _ => trivial) | refine J_call0E rfl rfl rfl (Keys_any bm) entA ?_ (fun _ _ _ _ _ => trivial) | (refine go ?_; first | refine J_callE rfl rfl rfl rfl (Keys_any bm) entA ?_ (fun _ _ _ _ _ => trivial) | refine J_call0E rfl rfl rfl (Keys_any bm) entA ?_ (fun _ _ _ _ _ => trivial)))
  rintro _ _ ⟨bx, rfl, rfl⟩
  have hso := Sorted_any bx bm (ptrs A.names) (by rw [hkeys]; exact hnd) (by omega)
  rw [hkeys, hkl] at hso
  refine J_ent (Ent.pick [2] rfl) ?_
  refine J_ent (stock_out mapG hjm _) ?_
  refine J_ent (Ent.pick [2, 0] rfl) ?_
  (refine go ?_)
  refine J_callE rfl rfl rfl rfl hso entA ?_ (fun _ _ _ _ _ => trivial)
  rintro v _ rfl
  refine J_ent (Ent.pick [2, 3] rfl) ?_
  refine J_ent (stock_in mapG hjm _) ?_
  (refine go ?_)
  refine K_ent ((Ent.pick [3, 0, 4, 5, 6, 7] rfl).trans (disk_c _ _ _ _ _ _ _ _ _ _ _ _ _)) ?_
  (first | refine K_return hE Tryz.func45 rfl _ rfl rfl entA | refine K_fallEnd hE Tryz.func45 rfl _ rfl rfl entA)
end Go.Proofs.YtpdmbmnhgcnelaaGreat

/- the program's journal: Broken; names of both disks, known by their models. -/
set_option linter.unusedVariables false
set_option linter.unusedSimpArgs false
namespace Go.Proofs.YtpdmbmnhgcnelaaGreat
open Go Go.SL
attribute [local irreducible] J K Ctr Ends pts slc mapR mapI sbRow stock arrS loopP CtrY diskA LI listH rdM

theorem Broken_any (jb bd : Nat) (name : ByteArray) (x : JN) : Ctr Tryz.prog 16 [ptr jb] [jrN jb bd name x] (fun r H => r = .bool x.br ∧ H = [jrN jb bd name x]) := by
  dsimp only [jrN, jr]
  refine Ctr.enter Tryz.func16 (by kernel_rfl) rfl Tryz.ntmps16 rfl rfl ?_
  intro G F R hE
  (refine go ?_)
  (first | refine K_return hE Tryz.func16 rfl _ rfl ⟨rfl, rfl⟩ entA | refine K_fallEnd hE Tryz.func16 rfl _ rfl ⟨rfl, rfl⟩ entA)
theorem Names_rM (br k : Nat) (m : RM) (hM : MOk m k) : Ctr Tryz.prog 43 [ptr br] [rdM br m] (fun v H => H = [slc 9 1 v (m.l.map (·.1)).length (strL (m.l.map (·.1))), rdM br m]) :=
  ctr_rd (Post := fun v H => ∃ D, RR D m ∧ H = [slc 9 1 v (m.l.map (·.1)).length (strL (m.l.map (·.1))), rd br D]) (by kernel_rfl) (fun D hR => (mNames_any br k D m hR hM).post (fun v H h => ⟨D, hR, h⟩)) (by rintro v H ⟨D', hR, rfl⟩; exact ⟨_, rfl, Ent.cons _ (rdM_in hR [])⟩)
theorem Names_dA (bd : Nat) (A : Ab) : Ctr Tryz.prog 45 [ptr bd] [diskA bd A] (fun r H => H = [slc 9 1 r (keysA A).length (nS (sortB (keysA A))), diskA bd A]) :=
  ctr_disk (Post := fun v H => ∃ D, Rel D A ∧ H = [slc 9 1 v (keysA A).length (nS (sortB (keysA A))), disk bd D]) (by kernel_rfl) (fun D hR => (Names_any bd D A hR).post (fun v H h => ⟨D, hR, h⟩)) (by rintro v H ⟨D', hR, rfl⟩; exact ⟨_, rfl, Ent.cons _ (diskA_in hR [])⟩)
end Go.Proofs.YtpdmbmnhgcnelaaGreat

/- journal, part o: lists of texts that came in, read off the given row's own reading. -/
set_option linter.unusedVariables false
set_option linter.unusedSimpArgs false
namespace Go.Proofs.YtpdmbmnhgcnelaaGreat
open Go Go.SL Go.RowKit Go.ChangeShapes Go.WideShapes
section
variable {H : Type} {enc : TypeId × Value → H} {W : World} {base : Nat} {spare : Nat → Bool} {held : Bool}
structure EB where
  a : Option Addr
  c : Nat
  bs : List UInt8
instance : Inhabited EB := ⟨⟨none, 0, []⟩⟩
def ebV (x : EB) : List Value := [.slice x.a x.bs.length x.c]
def ListsIn (X : HP) (v : Value) (l : List (List UInt8)) : Prop := LAt X v l ∧ l.length ≤ 9223372036854775807 ∧ ∀ x ∈ l, x.length ≤ 9223372036854775807
theorem open_eb (fuel : Nat) (cs : List Value) (x : DataW H × List MemPlace) (h : DataW.trod enc Tryz.prog W base spare held fuel 40 cs = some x) : ∃ y : EB, cs = ebV y ∧ (y.bs.length ≤ 9223372036854775807 ∧ BAt (old W) (.slice y.a y.bs.length y.c) y.bs) := by
  have hmx : maxLen = 9223372036854775807 := by decide
  rcases open_ints Tryz.underlying40 Tryz.underlying5 (by kernel_rfl) h with ⟨hcs, _⟩ | ⟨x, l, c, zs, hcs, _, hl, hm, hz, _, hcell, hwz⟩
  · subst hcs
    exact ⟨⟨none, 0, []⟩, rfl, by simp, nil_view W, none, 0, rfl, Nat.le_refl _⟩
  · subst hcs
    obtain ⟨bs, h1, h2⟩ := bytes_view (len := l) (cap := c) (by split at hz <;> omega) hcell hwz
    subst h1
    exact ⟨⟨some x, c, bs⟩, rfl, by simp only; omega, h2, _, c, rfl, hl⟩
theorem open_lists {fuel : Nat} {v : Value} {x : DataW H × List MemPlace} (h : DataW.trod enc Tryz.prog W base spare held fuel 33 [v] = some x) : ∃ l : List (List UInt8), ListsIn (old W) v l := by
  obtain ⟨l, a, c, hcs, h1, h2, h3⟩ := open_rows Tryz.underlying33 ebV 1 (by omega) (fun _ => rfl) (by kernel_rfl) (fun y : EB => y.bs.length ≤ 9223372036854775807 ∧ BAt (old W) (.slice y.a y.bs.length y.c) y.bs) open_eb h
  simp only [List.cons.injEq, and_true] at hcs
  subst hcs
  have hcap : l.length ≤ c := by
    rcases Go.Deep.open_slice Tryz.underlying33 h with ⟨hcs, _⟩ | ⟨a2, len, cap, m, n, D, Pl, hcs, hb, hl, hm, hmm, _, hx⟩
    · simp only [List.cons.injEq, and_true, Value.slice.injEq] at hcs; omega
    · simp only [List.cons.injEq, and_true, Value.slice.injEq] at hcs; omega
  have hf : l.flatMap ebV = l.map fun y => Value.slice y.a y.bs.length y.c := by
    clear h1 h2 h3 h hcap
    induction l with
    | nil => rfl
    | cons y l ih => rw [List.flatMap_cons, ih]; rfl
  refine ⟨l.map EB.bs, ⟨l.map fun y => Value.slice y.a y.bs.length y.c, ?_, by simp, ⟨a, c, by simp, by simpa using hcap⟩, fun i z hz => ?_⟩, by simpa using h3, fun z hz => ?_⟩
  · rw [List.length_map, ← hf]; exact h1
  · rw [List.getElem?_map] at hz
    cases hy : l[i]? with
    | none => rw [hy] at hz; cases hz
    | some y =>
      rw [hy] at hz
      cases hz
      exact ⟨_, by rw [List.getElem?_map, hy]; rfl, (h2 y (List.mem_of_getElem? hy)).2⟩
  · obtain ⟨y, hy, rfl⟩ := List.mem_map.1 hz
    exact (h2 y hy).1
end
end Go.Proofs.YtpdmbmnhgcnelaaGreat

/- journal scripts: steps that came in; what is much, are both disks alike. -/
set_option linter.unusedVariables false
set_option linter.unusedSimpArgs false
namespace Go.Proofs.YtpdmbmnhgcnelaaGreat
open Go Go.SL Go.RowKit Go.ChangeShapes Go.WideShapes
/-- A step. -/
structure ST where
  d : Int
  ba : Option Addr
  bc : Nat
  b : List UInt8
  la : Option Addr
  lc : Nat
  l : List (List UInt8)
  n : Int
  k : Int
  cut : Int
instance : Inhabited ST := ⟨⟨0, none, 0, [], none, 0, [], 0, 0, 0⟩⟩
def stC (s : ST) : List Value := [.int .i64 s.d, .slice s.ba s.b.length s.bc, .slice s.la s.l.length s.lc, .int .i64 s.n, .int .i64 s.k, .int .i64 s.cut]
theorem stC_len (s : ST) : (stC s).length = 6 := rfl
structure STok (X : HP) (s : ST) : Prop where
  d : SL.i64 s.d
  n : SL.i64 s.n
  k : SL.i64 s.k
  cut : SL.i64 s.cut
  b : BAt X (.slice s.ba s.b.length s.bc) s.b
  l : LAt X (.slice s.la s.l.length s.lc) s.l
  bl : s.b.length ≤ 9223372036854775807
  ll : s.l.length ≤ 9223372036854775807
  le : ∀ x ∈ s.l, x.length ≤ 9223372036854775807
def StepsIn (X : HP) (v : Value) (l : List ST) : Prop := Vw X v l.length (l.flatMap stC) ∧ l.length ≤ 9223372036854775807 ∧ ∀ s ∈ l, STok X s
section
variable {H : Type} {enc : TypeId × Value → H} {W : World} {base : Nat} {spare : Nat → Bool} {held : Bool}
theorem open_listsC (fuel : Nat) (cs : List Value) (x : DataW H × List MemPlace) (h : DataW.trod enc Tryz.prog W base spare held fuel 33 cs = some x) : ∃ (v : Value) (l : List (List UInt8)), cs = [v] ∧ ListsIn (old W) v l := by
  rcases Go.Deep.open_slice Tryz.underlying33 h with ⟨hcs, _⟩ | ⟨a2, len, cap, m, n, D, Pl, hcs, _⟩
  · subst hcs
    obtain ⟨l, hl⟩ := open_lists h
    exact ⟨_, l, rfl, hl⟩
  · subst hcs
    obtain ⟨l, hl⟩ := open_lists h
    exact ⟨_, l, rfl, hl⟩
theorem open_step (fuel : Nat) (cs : List Value) (x : DataW H × List MemPlace) (h : DataW.trod enc Tryz.prog W base spare held fuel 42 cs = some x) : ∃ y : ST, cs = stC y ∧ STok (old W) y := by
  obtain ⟨n, hp⟩ := open_struct (Tryz.underlying42 : _ = some (TypeDesc.struct _)) (by kernel_rfl) (by kernel_rfl) h
  obtain ⟨z0, r0, rfl, w0, hp⟩ := hp.int Tryz.underlying3
  obtain ⟨c1, r1, x1, rfl, h1, hp⟩ := hp.inv
  obtain ⟨c2, r2, x2, rfl, h2, hp⟩ := hp.inv
  obtain ⟨z3, r3, rfl, w3, hp⟩ := hp.int Tryz.underlying3
  obtain ⟨z4, r4, rfl, w4, hp⟩ := hp.int Tryz.underlying3
  obtain ⟨z5, r5, rfl, w5, hp⟩ := hp.int Tryz.underlying3
  have := hp.inv0
  subst this
  obtain ⟨yb, rfl, hy1, hy2⟩ := open_eb _ _ _ h1
  obtain ⟨v, l, rfl, hl, hl2, hl3⟩ := open_listsC _ _ _ h2
  have hl' := hl
  obtain ⟨_, _, _, ⟨a, c, rfl, _⟩, _⟩ := hl'
  exact ⟨⟨z0, yb.a, yb.c, yb.bs, a, c, l, z3, z4, z5⟩, rfl, i64_range w0, i64_range w3, i64_range w4, i64_range w5, hy2, hl, hy1, hl2, hl3⟩
theorem open_steps {fuel : Nat} {v : Value} {x : DataW H × List MemPlace} (h : DataW.trod enc Tryz.prog W base spare held fuel 22 [v] = some x) : ∃ l : List ST, StepsIn (old W) v l := by
  obtain ⟨l, a, c, hcs, h1, h2, h3⟩ := open_rows Tryz.underlying22 stC 6 (by omega) stC_len (by kernel_rfl) (STok (old W)) open_step h
  simp only [List.cons.injEq, and_true] at hcs
  subst hcs
  exact ⟨l, h1, h3, h2⟩
end
theorem Sim.bnd {A : Ab} {m : RM} {k : Nat} (h : Sim A m) (hM : MOk m k) : A.states.length ≤ k + 1 ∧ A.writes.length ≤ k := by
  obtain ⟨σ, h⟩ := h
  have h1 := h.sts.1
  have h2 := h.wr.1
  have h3 := hM.sk
  have h4 := hM.wk
  omega
theorem LAt.nil0 (X : HP) : LAt X (.slice none 0 0) [] := ⟨[], Vw.nil X none 0, rfl, ⟨none, 0, rfl, Nat.le_refl _⟩, fun i x h => by simp at h⟩
attribute [local irreducible] J K Ctr Ends pts slc mapR mapI sbRow stock arrS loopP CtrY diskA LI listH rdM
/-- What a step has at most. -/
def Small (s : ST) : Prop := s.b.length ≤ 6000 ∧ s.l.length ≤ 40 ∧ ∀ x ∈ s.l, x.length ≤ 6000
theorem st_get {l : List ST} {i : Nat} {s : ST} (h : l[i]? = some s) (q : Nat) (hq : q < 6) : (l.flatMap stC)[i * 6 + q]? = (stC s)[q]? := chunk_get stC_len h q hq

set_option maxRecDepth 20000 in
theorem much_any (X : HP) (v : Value) (l : List ST) (hv : Vw X v l.length (l.flatMap stC)) (hl : l.length ≤ 9223372036854775807) (hs : ∀ s ∈ l, STok X s) :
    Ctr Tryz.prog 5 [v] [X] (fun r H => ∃ b : Bool, r = .bool b ∧ H = [X] ∧ (b = false → ∀ (i : Nat) (s : ST), i < 100 → l[i]? = some s → Small s)) := by
  obtain ⟨a, c, rfl⟩ := hv.shape
  refine Ctr.enter Tryz.func5 (by kernel_rfl) rfl Tryz.ntmps5 rfl rfl ?_
  intro G F R hE
  (refine go ?_)
  refine K_loop (fun y : Nat × Nat => y.1 ≤ l.length ∧ y.1 ≤ 100 ∧ y.2 ≤ 40000 ∧ ∀ (i : Nat) (s : ST), i < y.1 → l[i]? = some s → Small s) (fun y => l.length - y.1)
    (fun y => [(0, .slice a l.length c), (3, .int .i64 (y.2 : Int)), (4, .int .i64 (y.1 : Int))]) (fun _ => X :: F) (0, 0) ⟨by omega, by omega, by omega, fun i s h => by simp at h⟩ rfl (by repeat (first | exact keep_nil | refine keep_cons rfl ?_)) entA ?_
  rintro ⟨i, n⟩ ⟨hi, hi2, hn, hsm⟩ ih
  simp only at hi hi2 hn hsm
  by_cases hend : i < l.length ∧ i < 100
  case neg =>
    have hfin : ∀ (j : Nat) (s : ST), j < 100 → l[j]? = some s → Small s := fun j s hj hs => hsm j s (by
      rcases Nat.lt_or_ge j l.length with h | h
      · omega
      · rw [List.getElem?_eq_none h] at hs; cases hs) hs
    (refine go ?_)
    by_cases h1 : i < l.length
    · (first | refine J_slot 10 ((.bool true)) rfl ((congrArg Value.bool (decide_eq_true (by omega)))) ?_ | refine K_slot 10 ((.bool true)) rfl ((congrArg Value.bool (decide_eq_true (by omega)))) ?_)
      (refine go ?_)
      (first | refine J_slot 13 ((.bool false)) rfl ((congrArg Value.bool (decide_eq_false (by simp only; omega)))) ?_ | refine K_slot 13 ((.bool false)) rfl ((congrArg Value.bool (decide_eq_false (by simp only; omega)))) ?_)
      (refine go ?_)
      (first | refine K_return hE Tryz.func5 rfl _ rfl ⟨false, rfl, rfl, fun _ => hfin⟩ entA | refine K_fallEnd hE Tryz.func5 rfl _ rfl ⟨false, rfl, rfl, fun _ => hfin⟩ entA)
    · (first | refine J_slot 10 ((.bool false)) rfl ((congrArg Value.bool (decide_eq_false (by omega)))) ?_ | refine K_slot 10 ((.bool false)) rfl ((congrArg Value.bool (decide_eq_false (by omega)))) ?_)
      (refine go ?_)
      (first | refine K_return hE Tryz.func5 rfl _ rfl ⟨false, rfl, rfl, fun _ => hfin⟩ entA | refine K_fallEnd hE Tryz.func5 rfl _ rfl ⟨false, rfl, rfl, fun _ => hfin⟩ entA)
  obtain ⟨hi1, hi100⟩ := hend
  obtain ⟨⟨sd, sba, sbc, sb, sla, slc', sl, sn, sk, scut⟩, hx⟩ : ∃ s, l[i]? = some s := ⟨l[i], by simp⟩
  have hok := hs _ (List.mem_of_getElem? hx)
  have hol := hok.l
  simp only at hol
  have s0 : (l.flatMap stC)[i * 6 + 0]? = some (.int .i64 sd) := st_get hx 0 (by omega)
  have s1 : (l.flatMap stC)[i * 6 + 1]? = some (.slice sba sb.length sbc) := st_get hx 1 (by omega)
  have s2 : (l.flatMap stC)[i * 6 + 2]? = some (.slice sla sl.length slc') := st_get hx 2 (by omega)
  have s3 : (l.flatMap stC)[i * 6 + 3]? = some (.int .i64 sn) := st_get hx 3 (by omega)
  have s4 : (l.flatMap stC)[i * 6 + 4]? = some (.int .i64 sk) := st_get hx 4 (by omega)
  have s5 : (l.flatMap stC)[i * 6 + 5]? = some (.int .i64 scut) := st_get hx 5 (by omega)
  obtain ⟨bb, oo, cc, hsl⟩ := hv.some (by rw [← List.length_pos_iff, chunk_len stC_len]; omega)
  simp only [Value.slice.injEq, true_and] at hsl
  obtain ⟨rfl, rfl⟩ := hsl
  (refine go ?_)
  (first | refine J_slot 10 ((.bool true)) rfl ((congrArg Value.bool (decide_eq_true (by omega)))) ?_ | refine K_slot 10 ((.bool true)) rfl ((congrArg Value.bool (decide_eq_true (by omega)))) ?_)
  (refine go ?_)
  (first | refine J_slot 13 ((.bool true)) rfl ((congrArg Value.bool (decide_eq_true (by simp only; omega)))) ?_ | refine K_slot 13 ((.bool true)) rfl ((congrArg Value.bool (decide_eq_true (by simp only; omega)))) ?_)
  repeat' (first | (with_reducible intro _hh) | refine go1 ?_ | refine J_fork ?_ ?_ | refine J_gsP rfl rfl rfl rfl ?_ ?_ | refine K_condP rfl rfl ?_ ?_ | refine J_at (U := tab) i 6 rfl rfl rfl rfl rfl rfl rfl rfl hi1 ?_ | (refine J_isLoad ?_; first | refine J_loadAt (U := tab) 0 (i * 6 + 1) rfl rfl rfl hv (Nat.add_assoc _ _ _) s1 rfl rfl ?_ | refine J_loadAt (U := tab) 0 (i * 6 + 2) rfl rfl rfl hv (Nat.add_assoc _ _ _) s2 rfl rfl ?_ | refine J_loadAt (U := tab) 0 (i * 6 + 3) rfl rfl rfl hv (Nat.add_assoc _ _ _) s3 rfl rfl ?_ | refine J_loadAt (U := tab) 0 (i * 6 + 4) rfl rfl rfl hv (Nat.add_assoc _ _ _) s4 rfl rfl ?_ | refine J_loadAt (U := tab) 0 (i * 6 + 5) rfl rfl rfl hv (Nat.add_assoc _ _ _) s5 rfl rfl ?_ | refine J_loadAt (U := tab) 0 (i * 6 + 0) rfl rfl rfl hv (Nat.add_assoc _ _ _) s0 rfl rfl ?_))
  any_goals (first | refine K_return hE Tryz.func5 rfl _ rfl ⟨true, rfl, rfl, fun h => by cases h⟩ entA | refine K_fallEnd hE Tryz.func5 rfl _ rfl ⟨true, rfl, rfl, fun h => by cases h⟩ entA)
  all_goals (
    have hb6 : sb.length ≤ 6000 := by omega
    have hl40 : sl.length ≤ 40 := by omega
    obtain ⟨csl, hvl, hcl, ⟨al, cl', hal, hccl⟩, hel⟩ := hol
    clear hal
    refine K_loop (fun y : Nat × Nat => y.1 ≤ sl.length ∧ y.2 ≤ 46000 ∧ ∀ (j : Nat) (x : List UInt8), j < y.1 → sl[j]? = some x → x.length ≤ 6000) (fun y => sl.length - y.1)
      (fun y => [(0, .slice (some ⟨bb, oo, none⟩) l.length c), (3, .int .i64 (y.2 : Int)), (4, .int .i64 (i : Int)), (5, .int .i64 (y.1 : Int))]) (fun _ => X :: F) (0, n + sb.length) ⟨by omega, by simp only; omega, fun j x h => by simp at h⟩ rfl (by repeat (first | exact keep_nil | refine keep_cons rfl ?_)) entA ?_
    rintro ⟨j, n2⟩ ⟨hj, hn2, hjs⟩ ih2
    simp only at hj hn2 hjs
    (repeat (first | refine go1 ?_ | refine J_fork ?_ ?_ | refine J_at (U := tab) i 6 rfl rfl rfl rfl rfl rfl rfl rfl hi1 ?_ | (refine J_isLoad ?_; first | refine J_loadAt (U := tab) 0 (i * 6 + 1) rfl rfl rfl hv (Nat.add_assoc _ _ _) s1 rfl rfl ?_ | refine J_loadAt (U := tab) 0 (i * 6 + 2) rfl rfl rfl hv (Nat.add_assoc _ _ _) s2 rfl rfl ?_ | refine J_loadAt (U := tab) 0 (i * 6 + 3) rfl rfl rfl hv (Nat.add_assoc _ _ _) s3 rfl rfl ?_ | refine J_loadAt (U := tab) 0 (i * 6 + 4) rfl rfl rfl hv (Nat.add_assoc _ _ _) s4 rfl rfl ?_ | refine J_loadAt (U := tab) 0 (i * 6 + 5) rfl rfl rfl hv (Nat.add_assoc _ _ _) s5 rfl rfl ?_ | refine J_loadAt (U := tab) 0 (i * 6 + 0) rfl rfl rfl hv (Nat.add_assoc _ _ _) s0 rfl rfl ?_)))
    refine K_condP rfl rfl ?_ ?_
    · intro hlt
      simp only at hlt
      have hj1 : j < sl.length := by omega
      obtain ⟨x, hxj⟩ : ∃ x, sl[j]? = some x := ⟨sl[j], by simp⟩
      obtain ⟨cv, hcv, hbx⟩ := hel j x hxj
      obtain ⟨b1, o1, k1, hs1⟩ := hvl.some (by intro e; rw [e] at hcv; simp at hcv)
      simp only [Value.slice.injEq, true_and] at hs1
      obtain ⟨rfl, rfl⟩ := hs1
      obtain ⟨ax, kx, rfl, hkx⟩ := hbx.2
      (repeat (first | refine go1 ?_ | refine J_fork ?_ ?_ | refine J_at (U := tab) i 6 rfl rfl rfl rfl rfl rfl rfl rfl hi1 ?_ | (refine J_isLoad ?_; first | refine J_loadAt (U := tab) 0 (i * 6 + 1) rfl rfl rfl hv (Nat.add_assoc _ _ _) s1 rfl rfl ?_ | refine J_loadAt (U := tab) 0 (i * 6 + 2) rfl rfl rfl hv (Nat.add_assoc _ _ _) s2 rfl rfl ?_ | refine J_loadAt (U := tab) 0 (i * 6 + 3) rfl rfl rfl hv (Nat.add_assoc _ _ _) s3 rfl rfl ?_ | refine J_loadAt (U := tab) 0 (i * 6 + 4) rfl rfl rfl hv (Nat.add_assoc _ _ _) s4 rfl rfl ?_ | refine J_loadAt (U := tab) 0 (i * 6 + 5) rfl rfl rfl hv (Nat.add_assoc _ _ _) s5 rfl rfl ?_ | refine J_loadAt (U := tab) 0 (i * 6 + 0) rfl rfl rfl hv (Nat.add_assoc _ _ _) s0 rfl rfl ?_) | refine J_at1 (U := tab) j rfl rfl rfl rfl rfl rfl rfl rfl hj1 ?_ | (refine J_isLoad ?_; refine J_loadAt (U := tab) 0 j rfl rfl rfl hvl rfl hcv rfl rfl ?_)))
      by_cases hx6 : 6000 < x.length
      · (first | refine J_slot 76 ((.bool true)) rfl ((congrArg Value.bool (decide_eq_true (by omega)))) ?_ | refine K_slot 76 ((.bool true)) rfl ((congrArg Value.bool (decide_eq_true (by omega)))) ?_)
        (refine go ?_)
        (first | refine K_return hE Tryz.func5 rfl _ rfl ⟨true, rfl, rfl, fun h => by cases h⟩ entA | refine K_fallEnd hE Tryz.func5 rfl _ rfl ⟨true, rfl, rfl, fun h => by cases h⟩ entA)
      (first | refine J_slot 76 ((.bool false)) rfl ((congrArg Value.bool (decide_eq_false (by omega)))) ?_ | refine K_slot 76 ((.bool false)) rfl ((congrArg Value.bool (decide_eq_false (by omega)))) ?_)
      (refine go ?_)
      by_cases hn4 : 40000 < n2
      · (first | refine J_slot 79 ((.bool true)) rfl ((congrArg Value.bool (decide_eq_true (by simp only; omega)))) ?_ | refine K_slot 79 ((.bool true)) rfl ((congrArg Value.bool (decide_eq_true (by simp only; omega)))) ?_)
        (refine go ?_)
        (first | refine K_return hE Tryz.func5 rfl _ rfl ⟨true, rfl, rfl, fun h => by cases h⟩ entA | refine K_fallEnd hE Tryz.func5 rfl _ rfl ⟨true, rfl, rfl, fun h => by cases h⟩ entA)
      (first | refine J_slot 79 ((.bool false)) rfl ((congrArg Value.bool (decide_eq_false (by simp only; omega)))) ?_ | refine K_slot 79 ((.bool false)) rfl ((congrArg Value.bool (decide_eq_false (by simp only; omega)))) ?_)
      (repeat (first | refine go1 ?_ | refine J_fork ?_ ?_ | refine J_at (U := tab) i 6 rfl rfl rfl rfl rfl rfl rfl rfl hi1 ?_ | (refine J_isLoad ?_; first | refine J_loadAt (U := tab) 0 (i * 6 + 1) rfl rfl rfl hv (Nat.add_assoc _ _ _) s1 rfl rfl ?_ | refine J_loadAt (U := tab) 0 (i * 6 + 2) rfl rfl rfl hv (Nat.add_assoc _ _ _) s2 rfl rfl ?_ | refine J_loadAt (U := tab) 0 (i * 6 + 3) rfl rfl rfl hv (Nat.add_assoc _ _ _) s3 rfl rfl ?_ | refine J_loadAt (U := tab) 0 (i * 6 + 4) rfl rfl rfl hv (Nat.add_assoc _ _ _) s4 rfl rfl ?_ | refine J_loadAt (U := tab) 0 (i * 6 + 5) rfl rfl rfl hv (Nat.add_assoc _ _ _) s5 rfl rfl ?_ | refine J_loadAt (U := tab) 0 (i * 6 + 0) rfl rfl rfl hv (Nat.add_assoc _ _ _) s0 rfl rfl ?_) | refine J_at1 (U := tab) j rfl rfl rfl rfl rfl rfl rfl rfl hj1 ?_ | (refine J_isLoad ?_; refine J_loadAt (U := tab) 0 j rfl rfl rfl hvl rfl hcv rfl rfl ?_)))
      refine K_again ih2 (j + 1, n2 + x.length) rfl ⟨by simp only; omega, by simp only; omega, fun q z hq hz => ?_⟩ (by simp only; omega) (by repeat (first | exact keep_nil | refine keep_cons rfl ?_)) entA
      rcases Nat.lt_or_ge q j with h | h
      · exact hjs q z h hz
      · have : q = j := by simp only at hq; omega
        subst this
        rw [hxj] at hz; cases hz; omega
    · intro hge
      simp only at hge
      have hsmall : Small ⟨sd, sba, sbc, sb, sla, slc', sl, sn, sk, scut⟩ := by
        refine ⟨hb6, hl40, fun x hxm => ?_⟩
        simp only at hxm
        obtain ⟨q, hq, rfl⟩ := List.getElem_of_mem hxm
        exact hjs q _ (by omega) (List.getElem?_eq_getElem hq)
      (refine go ?_)
      refine K_condP rfl rfl ?_ ?_
      · intro hbig
        (refine go ?_)
        (first | refine K_return hE Tryz.func5 rfl _ rfl ⟨true, rfl, rfl, fun h => by cases h⟩ entA | refine K_fallEnd hE Tryz.func5 rfl _ rfl ⟨true, rfl, rfl, fun h => by cases h⟩ entA)
      intro hok4
      simp only at hok4
      (refine go ?_)
      refine K_again ih (i + 1, n2) rfl ⟨by simp only; omega, by simp only; omega, by simp only; omega, fun q z hq hz => ?_⟩ (by simp only; omega) (by repeat (first | exact keep_nil | refine keep_cons rfl ?_)) entA
      rcases Nat.lt_or_ge q i with h | h
      · exact hsm q z h hz
      · have : q = i := by simp only at hq; omega
        subst this
        rw [hx] at hz; cases hz; exact hsmall)
theorem encStr_str (l : List ByteArray) : nS (l.map fun x => x.data.toList) = strL l := by
  unfold nS strL
  rw [List.map_map]
  refine List.map_congr_left fun x _ => ?_
  simp only [Function.comp_apply]
set_option maxRecDepth 20000 in
theorem alike_any (bd br k : Nat) (A : Ab) (m : RM) (hS : Sim A m) (hO : OrdM m) (hM : MOk m k) :
    Ctr Tryz.prog 14 [ptr bd, ptr br] [diskA bd A, rdM br m] (fun r H => r = .bool true ∧ H = [diskA bd A, rdM br m]) := by
  have hnl : (m.l.map (·.1)).length ≤ 1000000000 := by rw [List.length_map]; have := hM.ll; have := hM.kk; omega
  have hoff : m.down = A.off := by obtain ⟨σ, h⟩ := hS; exact h.off
  have hkl : (keysA A).length = (m.l.map (·.1)).length := by
    have := congrArg List.length (hS.names hO)
    rw [List.length_map] at this
    rw [List.length_map, ← this]
    have := (sortB_perm0 (keysA A)).length_eq
    simpa using this.symm
  have hnm : nS (sortB (keysA A)) = strL (m.l.map (·.1)) := by
    rw [hS.names hO, ← encStr_str, List.map_map]; rfl
  refine Ctr.enter Tryz.func14 (by kernel_rfl) rfl Tryz.ntmps14 rfl rfl ?_
  intro G F R hE
  (refine go ?_)
  (first | refine J_callE rfl rfl rfl rfl (Names_rM br k m hM) entA ?_ (fun _ _ _ _ _ => trivial) | refine J_call0E rfl rfl rfl (Names_rM br k m hM) entA ?_ (fun _ _ _ _ _ => trivial) | (refine go ?_; first | refine J_callE rfl rfl rfl rfl (Names_rM br k m hM) entA ?_ (fun _ _ _ _ _ => trivial) | refine J_call0E rfl rfl rfl (Names_rM br k m hM) entA ?_ (fun _ _ _ _ _ => trivial)))
  rintro v1 _ rfl
  (first | refine J_shape 0 rfl ?_ | refine K_shape 0 rfl ?_)
  rintro a1 c1 rfl
  refine J_slcVw 0 rfl ?_
  intro hv1
  (refine go ?_)
  (first | refine J_callE rfl rfl rfl rfl (Names_dA bd A) entA ?_ (fun _ _ _ _ _ => trivial) | refine J_call0E rfl rfl rfl (Names_dA bd A) entA ?_ (fun _ _ _ _ _ => trivial) | (refine go ?_; first | refine J_callE rfl rfl rfl rfl (Names_dA bd A) entA ?_ (fun _ _ _ _ _ => trivial) | refine J_call0E rfl rfl rfl (Names_dA bd A) entA ?_ (fun _ _ _ _ _ => trivial)))
  rintro v2 _ rfl
  rw [hnm, hkl]
  (first | refine J_shape 0 rfl ?_ | refine K_shape 0 rfl ?_)
  rintro a2 c2 rfl
  refine J_slcVw 0 rfl ?_
  intro hv2
  (refine go ?_)
  (first | refine J_callE rfl rfl rfl rfl (SameNames_any _ _ _ _ (m.l.map (·.1)) (m.l.map (·.1)) hv2 hv1 hnl) entA ?_ (fun _ _ _ _ _ => trivial) | refine J_call0E rfl rfl rfl (SameNames_any _ _ _ _ (m.l.map (·.1)) (m.l.map (·.1)) hv2 hv1 hnl) entA ?_ (fun _ _ _ _ _ => trivial) | (refine go ?_; first | refine J_callE rfl rfl rfl rfl (SameNames_any _ _ _ _ (m.l.map (·.1)) (m.l.map (·.1)) hv2 hv1 hnl) entA ?_ (fun _ _ _ _ _ => trivial) | refine J_call0E rfl rfl rfl (SameNames_any _ _ _ _ (m.l.map (·.1)) (m.l.map (·.1)) hv2 hv1 hnl) entA ?_ (fun _ _ _ _ _ => trivial)))
  rintro _ _ ⟨rfl, rfl⟩
  rw [decide_eq_true rfl]
  (refine go ?_)
  refine K_ent (Ent.pick [3] rfl) ?_
  refine K_open (rdM_open br m) ?_
  rintro ⟨room, now, sure, lv, sts, wrs, nxt, down, nowL, sureL, stsL, wl, arrs, nrows⟩ hR
  have hdn := hR.down
  simp only at hdn
  refine K_ent (rd_o _ _ _ _ _ _ _ _ _ _ _ _ _ _ _ _) ?_
  refine K_drawA (fun w => Sat G w ([pts br (cl [.int .i64 room, now, sure, lv, sts, wrs, nxt, .bool down] 61)])) (.st 0 (.st 1 (.st 2 (.st 3 (.st 5 (.st 6 (.st 7 (.st 8 (.act 4 (.st 9 (.st 10 .nil))))))))))) rfl (by kernel_rfl) (by kernel_rfl) (by kernel_rfl) (fun w hw => hw.ent entA) ?_
  (refine go ?_)
  (first | refine J_callE rfl rfl rfl rfl (Off_dA bd A) entA ?_ (fun _ _ w hp hw => by obtain ⟨rfl, rfl⟩ := hp; exact hw.ent entA) | refine J_call0E rfl rfl rfl (Off_dA bd A) entA ?_ (fun _ _ w hp hw => by obtain ⟨rfl, rfl⟩ := hp; exact hw.ent entA))
  rintro _ _ ⟨rfl, rfl⟩
  (refine go ?_)
  (first | refine J_slot 30 ((.bool false)) rfl ((congrArg Value.bool (by rw [hdn, hoff]; simp))) ?_ | refine K_slot 30 ((.bool false)) rfl ((congrArg Value.bool (by rw [hdn, hoff]; simp))) ?_)
  refine K_ent (Ent.pick [1, 2, 3, 4, 5, 6, 7] rfl) ?_
  refine K_ent (rd_c _ _ _ _ _ _ _ _ _ _ _ _ _ _ _ _) ?_
  refine K_ent (rdM_in hR _) ?_
  clear hR hdn
  obtain ⟨nm, hnme⟩ : ∃ nm, nm = m.l.map (·.1) := ⟨_, rfl⟩
  rw [← hnme] at hv1 hv2 hnl ⊢
  (refine go ?_)
  refine K_loop (fun i : Nat => i ≤ nm.length) (fun i => nm.length - i)
    (fun i => [(0, ptr bd), (0 + 1, ptr br), (5, .slice a1 nm.length c1), (7, .int .i64 (i : Int))])
    (fun _ => diskA bd A :: rdM br m :: slc 9 1 (.slice a1 nm.length c1) nm.length (strL nm) :: F) 0 (Nat.zero_le _) rfl (by repeat (first | exact keep_nil | refine keep_cons rfl ?_)) entA ?_
  rintro i hi ih
  (refine go ?_)
  refine K_condP rfl rfl ?_ ?_
  case' refine_2 =>
    intro hge
    (refine go ?_)
    (first | refine K_return hE Tryz.func14 rfl _ rfl ⟨rfl, rfl⟩ entA | refine K_fallEnd hE Tryz.func14 rfl _ rfl ⟨rfl, rfl⟩ entA)
  intro hlt
  have hi1 : i < nm.length := by omega
  obtain ⟨x, hx⟩ : ∃ x, nm[i]? = some x := ⟨nm[i], by simp⟩
  have hcx := strL_get hx
  obtain ⟨b1, o1, k1, hs1⟩ := hv1.some (by intro e; rw [e] at hcx; simp at hcx)
  simp only [Value.slice.injEq, true_and] at hs1
  obtain ⟨rfl, rfl⟩ := hs1
  (repeat (first | refine go1 ?_ | refine J_fork ?_ ?_ | refine J_at1 (U := tab) i rfl rfl rfl rfl rfl rfl rfl rfl hi1 ?_ | (refine J_isLoad ?_; refine J_loadAt (U := tab) 2 i rfl rfl rfl hv1 rfl hcx rfl rfl ?_)))
  (first | refine J_callE rfl rfl rfl rfl (Size_rM br k m hM x) entA ?_ (fun _ _ _ _ _ => trivial) | refine J_call0E rfl rfl rfl (Size_rM br k m hM x) entA ?_ (fun _ _ _ _ _ => trivial) | (refine go ?_; first | refine J_callE rfl rfl rfl rfl (Size_rM br k m hM x) entA ?_ (fun _ _ _ _ _ => trivial) | refine J_call0E rfl rfl rfl (Size_rM br k m hM x) entA ?_ (fun _ _ _ _ _ => trivial)))
  rintro _ _ ⟨rfl, rfl⟩
  have hsz := RM.size_len hM x
  (repeat (first | refine go1 ?_ | refine J_fork ?_ ?_ | refine J_at1 (U := tab) i rfl rfl rfl rfl rfl rfl rfl rfl hi1 ?_ | (refine J_isLoad ?_; refine J_loadAt (U := tab) 2 i rfl rfl rfl hv1 rfl hcx rfl rfl ?_)))
  (first | refine J_callE rfl rfl rfl rfl (Read_dA bd A x 0 ((m.size x).1 : Int)) entA ?_ (fun _ _ _ _ _ => trivial) | refine J_call0E rfl rfl rfl (Read_dA bd A x 0 ((m.size x).1 : Int)) entA ?_ (fun _ _ _ _ _ => trivial) | (refine go ?_; first | refine J_callE rfl rfl rfl rfl (Read_dA bd A x 0 ((m.size x).1 : Int)) entA ?_ (fun _ _ _ _ _ => trivial) | refine J_call0E rfl rfl rfl (Read_dA bd A x 0 ((m.size x).1 : Int)) entA ?_ (fun _ _ _ _ _ => trivial)))
  rintro _ _ ⟨rv, rfl, rfl⟩
  rw [hS.read]
  (first | refine J_shape 1 rfl ?_ | refine K_shape 1 rfl ?_)
  rintro a3 c3 rfl
  refine J_slcVw 1 rfl ?_
  intro hr1
  (repeat (first | refine go1 ?_ | refine J_fork ?_ ?_ | refine J_at1 (U := tab) i rfl rfl rfl rfl rfl rfl rfl rfl hi1 ?_ | (refine J_isLoad ?_; refine J_loadAt (U := tab) 3 i rfl rfl rfl hv1 rfl hcx rfl rfl ?_)))
  (first | refine J_callE rfl rfl rfl rfl (Read_rM br k m hM x 0 ((m.size x).1 : Int) (by omega) (by omega)) entA ?_ (fun _ _ _ _ _ => trivial) | refine J_call0E rfl rfl rfl (Read_rM br k m hM x 0 ((m.size x).1 : Int) (by omega) (by omega)) entA ?_ (fun _ _ _ _ _ => trivial) | (refine go ?_; first | refine J_callE rfl rfl rfl rfl (Read_rM br k m hM x 0 ((m.size x).1 : Int) (by omega) (by omega)) entA ?_ (fun _ _ _ _ _ => trivial) | refine J_call0E rfl rfl rfl (Read_rM br k m hM x 0 ((m.size x).1 : Int) (by omega) (by omega)) entA ?_ (fun _ _ _ _ _ => trivial)))
  rintro _ _ ⟨a4, c4, rfl, rfl⟩
  refine J_slcVw 0 rfl ?_
  intro hr2
  (refine go ?_)
  refine J_toStr (U := tab) 3 rfl rfl rfl rfl rfl rfl rfl rfl rfl hr1 ?_
  (refine go ?_)
  refine J_toStr (U := tab) 0 rfl rfl rfl rfl rfl rfl rfl rfl rfl hr2 ?_
  (refine go ?_)
  (first | refine J_slot 71 ((.bool false)) rfl ((congrArg Value.bool (by rw [eqS_strOf]; simp))) ?_ | refine K_slot 71 ((.bool false)) rfl ((congrArg Value.bool (by rw [eqS_strOf]; simp))) ?_)
  (refine go ?_)
  (first | refine J_slot 75 ((.bool false)) rfl ((congrArg Value.bool (by simp))) ?_ | refine K_slot 75 ((.bool false)) rfl ((congrArg Value.bool (by simp))) ?_)
  (refine go ?_)
  refine K_again ih (i + 1) rfl (by omega) (by omega) (by repeat (first | exact keep_nil | refine keep_cons rfl ?_)) entA
end Go.Proofs.YtpdmbmnhgcnelaaGreat

