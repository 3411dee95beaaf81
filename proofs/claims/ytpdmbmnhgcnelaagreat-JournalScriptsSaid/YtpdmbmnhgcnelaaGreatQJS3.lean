/- Texts of one claim, joined: EngF, EngG, EngH, Pt, Fm. -/
import Derived.Test.YtpdmbmnhgcnelaaGreatQJS2
/- Engine, part F: maps. Nothing here names a program. -/
set_option linter.unusedSimpArgs false
set_option linter.unusedVariables false
set_option linter.unusedSectionVars false
namespace Go.SL

/-- Keys of a kind, as values: they are checked, found and kept as Go does. -/
structure KeyOk (P : Program) (kt : TypeId) {κ : Type} (kv : κ → Value) : Prop where
  inj : ∀ a b, kv a = kv b → a = b
  check : ∀ (e : Bool) (k : κ) (w : World), (Instr.checkKey e 10000 kt (kv k)).run P w = .ok () w
  find : ∀ (k : κ) (l : List MapEntry) (ks : List κ) (w : World), l.map (·.key) = ks.map kv →
    ∃ r, (Instr.findKey kt (kv k) l).run P w = .ok r w ∧
      ((r = none ∧ k ∉ ks) ∨ ∃ i e, r = some (i, e.val) ∧ l[i]? = some e ∧ ks[i]? = some k ∧ ∀ j, j < i → ks[j]? ≠ some k)
  bits : ∀ k, Instr.sameBits 10000 (kv k) (kv k) = true

theorem findNow_spec {κ : Type} {kv : κ → Value} {kind : TypeDesc} [DecidableEq κ] (hs : ∀ a b, Instr.sameNow kind (kv a) (kv b) = some (decide (a = b))) (k : κ) :
    ∀ (l : List MapEntry) (ks : List κ) (o : Nat), l.map (·.key) = ks.map kv →
      ∃ r, Instr.findNow kind (kv k) l o = some r ∧ ((r = none ∧ k ∉ ks) ∨ ∃ i e, r = some (o + i, e.val) ∧ l[i]? = some e ∧ ks[i]? = some k ∧ ∀ j, j < i → ks[j]? ≠ some k) := by
  intro l
  induction l with
  | nil =>
    intro ks o h
    have : ks = [] := by simpa using h.symm
    subst this
    exact ⟨none, rfl, .inl ⟨rfl, by simp⟩⟩
  | cons e l ih =>
    intro ks o h
    cases ks with
    | nil => simp at h
    | cons c ks =>
      simp only [List.map_cons, List.cons.injEq] at h
      obtain ⟨h1, h2⟩ := h
      simp only [Instr.findNow, h1, hs]
      by_cases hkc : k = c
      · subst hkc
        refine ⟨_, by simp; rfl, .inr ⟨0, e, by simp, by simp, by simp, fun j hj => absurd hj (by omega)⟩⟩
      · obtain ⟨r, hr, hcase⟩ := ih ks (o + 1) h2
        refine ⟨r, by simp [hkc, hr], ?_⟩
        rcases hcase with ⟨rfl, hn⟩ | ⟨i, e', rfl, hi, hk, hj⟩
        · exact .inl ⟨rfl, by simp [hkc, hn]⟩
        · refine .inr ⟨i + 1, e', by congr 2; omega, by simpa using hi, by simpa using hk, fun j hj' => ?_⟩
          cases j with
          | zero => simp; exact fun h => hkc h.symm
          | succ j => simpa using hj j (by omega)

theorem keyOk_of_same {P : Program} {kt : TypeId} {kind : TypeDesc} {κ : Type} [DecidableEq κ] {kv : κ → Value} (hu : P.underlying kt = some kind) (hs : ∀ a b, Instr.sameNow kind (kv a) (kv b) = some (decide (a = b)))
    (hk : (match kind with | .interface _ => false | .array _ _ => false | .struct _ => false | _ => true) = true)
    (inj : ∀ a b, kv a = kv b → a = b) (bits : ∀ k, Instr.sameBits 10000 (kv k) (kv k) = true) : KeyOk P kt kv where
  inj := inj
  check := fun e k w => by
    unfold Instr.checkKey
    simp only [Sem.run_bind, underlying, run_program, Result.andThen_ok, hu, Sem.run_pure]
    cases kind <;> simp_all
  find := fun k l ks w h => by
    obtain ⟨r, hr, hcase⟩ := findNow_spec hs k l ks 0 h
    refine ⟨r, ?_, ?_⟩
    · simp only [Instr.findKey, Sem.run_bind, underlying, run_program, Result.andThen_ok, hu, Sem.run_pure, hr]
    · rcases hcase with h | ⟨i, e, hr, hi, hk, hj⟩
      · exact .inl h
      · exact .inr ⟨i, e, by rw [hr]; simp, hi, hk, hj⟩
  bits := bits

theorem beqB (a b : ByteArray) : (a == b) = decide (a = b) := by
  rw [Bool.eq_iff_iff]
  simp only [decide_eq_true_eq]
  constructor
  · intro h
    have h1 : (a.data == b.data) = true := h
    cases a; cases b; simp at h1; rw [h1]
  · rintro rfl
    show (a.data == a.data) = true
    simp
theorem map_eraseIdx' {α β : Type} (g : α → β) (l : List α) (i : Nat) : (l.eraseIdx i).map g = (l.map g).eraseIdx i := by
  induction l generalizing i with
  | nil => rfl
  | cons x l ih => cases i <;> simp [ih]
theorem keyStr {P : Program} {kt : TypeId} (hu : P.underlying kt = some .string) : KeyOk P kt Value.string :=
  keyOk_of_same hu (fun a b => by simp only [Instr.sameNow, beqB]) rfl (fun a b h => by cases h; rfl) (fun k => by simp [Instr.sameBits, beqB])
theorem keyInt {P : Program} {kt : TypeId} {j : IntKind} (hu : P.underlying kt = some (.int j)) : KeyOk P kt (Value.int j) :=
  keyOk_of_same hu (fun a b => by simp only [Instr.sameNow, if_true, beqI]) rfl (fun a b h => by cases h; rfl) (fun k => by simp [Instr.sameBits])

/-! ## a map as a list of keys and values -/
section
variable {κ : Type} [DecidableEq κ]
def alook (es : List (κ × Value)) (k : κ) : Option Value := (es.find? fun x => decide (x.1 = k)).map (·.2)
def aset (es : List (κ × Value)) (k : κ) (v : Value) : List (κ × Value) := if k ∈ es.map (·.1) then es.map (fun x => if x.1 = k then (k, v) else x) else es ++ [(k, v)]
def adel (es : List (κ × Value)) (k : κ) : List (κ × Value) := es.filter fun x => !decide (x.1 = k)

theorem alook_none {es : List (κ × Value)} {k : κ} : alook es k = none ↔ k ∉ es.map (·.1) := by
  unfold alook
  simp only [Option.map_eq_none_iff, List.find?_eq_none, decide_eq_true_eq, List.mem_map, not_exists, not_and]
theorem alook_get {es : List (κ × Value)} {k : κ} {i : Nat} {v : Value} (hi : es[i]? = some (k, v)) (hj : ∀ j, j < i → (es.map (·.1))[j]? ≠ some k) : alook es k = some v := by
  induction es generalizing i with
  | nil => simp at hi
  | cons x es ih =>
    cases i with
    | zero => simp at hi; subst hi; simp [alook]
    | succ i =>
      simp at hi
      have h0 := hj 0 (by omega)
      simp at h0
      have := ih hi (fun j hj' => by have := hj (j + 1) (by omega); simpa using this)
      unfold alook at this ⊢
      simp [h0, this]

/-- Block b is a map of these entries. -/
def mapW (kv : κ → Value) (o : Obj) (es : List (κ × Value)) : Prop :=
  ∃ entries clock, o = .map entries clock ∧ entries.toList.map (fun e => (e.key, e.val)) = es.map (fun x => (kv x.1, x.2)) ∧ (es.map (·.1)).Nodup ∧ (∀ e ∈ entries.toList, e.born < clock) ∧ (entries.toList.map (·.born)).Nodup
def mapR (kv : κ → Value) (b : Nat) (es : List (κ × Value)) : HP := fun h => ∃ o, mapW kv o es ∧ pts b o h

theorem Sat.getMap {G : Glob} {w : World} {H : List HP} {kv : κ → Value} {b : Nat} {es : List (κ × Value)} (hs : Sat G w H) {i : Nat} (hi : getL H i = some (mapR kv b es)) : ∃ o, mapW kv o es ∧ w.heap[b]? = some o := by
  obtain ⟨h, hh, o, ho, hp⟩ := hs.getA hi
  exact ⟨o, ho, hh b o (by rw [hp b]; simp)⟩
theorem mapR_new (kv : κ → Value) (b : Nat) : ∀ h, pts b (.map #[] 0) h → mapR kv b [] h := fun h hp => ⟨_, ⟨#[], 0, rfl, rfl, by simp, by simp, by simp⟩, hp⟩
theorem mapR_nodup {kv : κ → Value} {b : Nat} {es : List (κ × Value)} {h : Hp} (hm : mapR kv b es h) : (es.map (·.1)).Nodup := by
  obtain ⟨o, ⟨_, _, _, _, hn, _⟩, _⟩ := hm; exact hn

/-- Put the item i anew: another object in its block. -/
theorem Sat.putMap {G : Glob} {w : World} {H H' : List HP} {kv : κ → Value} {b : Nat} {es es' : List (κ × Value)} {o' : Obj} {i : Nat} (hs : Sat G w H) (hi : getL H i = some (mapR kv b es)) (hm : mapW kv o' es') (hp : putP i (mapR kv b es') H [] = .mk H') :
    Sat G { w with heap := w.heap.setIfInBounds b o' } H' := by
  have hs1 := hs.ent (Ent.perm (perm_of_get (by rw [← getL_eq]; exact hi)))
  obtain ⟨hT, hO, hU', hh, hsub, h1, h2, ⟨o, ho, hpt⟩, hB, hd, hj⟩ := hs1
  have hs2 : Sat G w (pts b o :: H.eraseIdx i) := ⟨hT, hO, hU', hh, hsub, h1, h2, hpt, hB, hd, hj⟩
  have h3 := hs2.set0 (o' := o')
  have h4 := putP_eq i _ _ H [] H' hp hi
  refine (h3.ent ?_).ent (Ent.perm (by simpa using h4.symm))
  exact Ent.fold (B := [_]) fun h hs => ⟨h, sub.refl h, o', hm, Sep_one hs⟩
end

section
variable {P : Program} {U : Tr} [hU : TabOk P U] {f : FuncId} {n : Nat} {R : Ending → World → Prop} {G : Glob} {k : List Item} {L : Lst} {H H' : List HP} {S : World → Prop} {all : Array Oper} {rest : Pl}
  {ty : TypeId} {pos : String} {af : Array Edge} {gd : Option (Nat × Bool)} {m : Bool} {d : Tmp}
variable {κ : Type} [DecidableEq κ] {kv : κ → Value}

theorem run_getObj_map {w : World} {b : Nat} {es : Array MapEntry} {c : Nat} (h : w.heap[b]? = some (.map es c)) : (getObj b).run P w = .ok (.map es c) w := by
  simp [getObj, Sem.run, h]

theorem run_lookup {t kt et : TypeId} {ty' te : Ty} {z : Value} {b : Nat} {es : List (κ × Value)} {key : κ} {o : Obj} {w : World} (c : Bool) (hko : KeyOk P kt kv) (ht : U.get t = some ty') (hu : ty'.und = .map kt et) (he : U.get et = some te) (hz : te.info.zero = some z)
    (hm : mapW kv o es) (hb : w.heap[b]? = some o) :
    (Instr.lookup t (.map (some b)) (kv key) c).run P w = .ok (if c then .tuple #[(alook es key).getD z, .bool (alook es key).isSome] else (alook es key).getD z) w := by
  obtain ⟨entries, clock, rfl, hes, hnd, hborn, hbn⟩ := hm
  have hks : entries.toList.map (·.key) = (es.map (·.1)).map kv := by
    have := congrArg (List.map (·.1)) hes
    simpa [Function.comp_def] using this
  obtain ⟨r, hr, hcase⟩ := hko.find key entries.toList (es.map (·.1)) w hks
  unfold Instr.lookup
  simp only [Sem.run_bind, run_underlying ht, Result.andThen_ok, hu, run_getObj_map hb, Sem.run_pure, hko.check, hr]
  rcases hcase with ⟨rfl, hn⟩ | ⟨i, e, rfl, hi, hk, hj⟩
  · have := alook_none.2 hn
    simp only [Sem.run_bind, run_zeroValue he hz, Result.andThen_ok, Sem.run_pure, this]
    cases c <;> rfl
  · have hv : es[i]? = some (key, e.val) := by
      have h1 := congrArg (·[i]?) hes
      simp only [List.getElem?_map, hi, Option.map_some] at h1
      simp only [List.getElem?_map] at hk
      cases hx : es[i]? with
      | none => rw [hx] at hk; cases hk
      | some x =>
        rw [hx] at h1 hk
        simp only [Option.map_some, Option.some.injEq, Prod.mk.injEq] at h1 hk
        rw [← hk, h1.2]
    have := alook_get hv hj
    simp only [Sem.run_pure, Result.andThen_ok, this]
    cases c <;> rfl

theorem J_lookup {t kt et : TypeId} {ty' te : Ty} {z : Value} {x y : Operand} {b : Nat} {es : List (κ × Value)} {key : κ} {kval : Value} (i : Nat) (hd : Nat.blt d n = true) (hko : KeyOk P kt kv)
    (hx : ev L x = some (.map (some b))) (hy : ev L y = some kval) (hkv : kval = kv key) (ht : U.get t = some ty') (hu : ty'.und = .map kt et) (he : U.get et = some te) (hz : te.info.zero = some z) (hi : getL H i = some (mapR kv b es))
    (h : J P f n R G S all rest k ((d, (alook es key).getD z) :: L) H) : J P f n R G S all (.cons false true ⟨some d, .lookup t x y false, ty, pos, af, gd⟩ rest) k L H :=
  J_read hd (fun a w ha hw => by
    obtain ⟨o, hm, hb⟩ := hw.getMap hi
    subst hkv
    simp [execOp, ha.ev hx, ha.ev hy, run_lookup (P := P) (key := key) false hko ht hu he hz hm hb]) h
theorem J_lookupOk {t kt et : TypeId} {ty' te : Ty} {z : Value} {x y : Operand} {b : Nat} {es : List (κ × Value)} {key : κ} {kval : Value} (i : Nat) (hd : Nat.blt d n = true) (hko : KeyOk P kt kv)
    (hx : ev L x = some (.map (some b))) (hy : ev L y = some kval) (hkv : kval = kv key) (ht : U.get t = some ty') (hu : ty'.und = .map kt et) (he : U.get et = some te) (hz : te.info.zero = some z) (hi : getL H i = some (mapR kv b es))
    (h : J P f n R G S all rest k ((d, .tuple #[(alook es key).getD z, .bool (alook es key).isSome]) :: L) H) : J P f n R G S all (.cons false true ⟨some d, .lookup t x y true, ty, pos, af, gd⟩ rest) k L H :=
  J_read hd (fun a w ha hw => by
    obtain ⟨o, hm, hb⟩ := hw.getMap hi
    subst hkv
    simp [execOp, ha.ev hx, ha.ev hy, run_lookup (P := P) (key := key) true hko ht hu he hz hm hb]) h
theorem J_lookupC {t kt et : TypeId} {ty' te : Ty} {z : Value} {x y : Operand} {b : Nat} {es : List (κ × Value)} {key : κ} {kval : Value} (hd : Nat.blt d n = true) (hko : KeyOk P kt kv)
    (hx : ev L x = some (.map (some b))) (hy : ev L y = some kval) (hkv : kval = kv key) (ht : U.get t = some ty') (hu : ty'.und = .map kt et) (he : U.get et = some te) (hz : te.info.zero = some z) (hi : ∀ w, Sat G w H → ∃ o, mapW kv o es ∧ w.heap[b]? = some o)
    (h : J P f n R G S all rest k ((d, (alook es key).getD z) :: L) H) : J P f n R G S all (.cons false true ⟨some d, .lookup t x y false, ty, pos, af, gd⟩ rest) k L H :=
  J_read hd (fun a w ha hw => by
    obtain ⟨o, hm, hb⟩ := hi w hw
    subst hkv
    simp [execOp, ha.ev hx, ha.ev hy, run_lookup (P := P) (key := key) false hko ht hu he hz hm hb]) h
theorem J_lookupOkC {t kt et : TypeId} {ty' te : Ty} {z : Value} {x y : Operand} {b : Nat} {es : List (κ × Value)} {key : κ} {kval : Value} (hd : Nat.blt d n = true) (hko : KeyOk P kt kv)
    (hx : ev L x = some (.map (some b))) (hy : ev L y = some kval) (hkv : kval = kv key) (ht : U.get t = some ty') (hu : ty'.und = .map kt et) (he : U.get et = some te) (hz : te.info.zero = some z) (hi : ∀ w, Sat G w H → ∃ o, mapW kv o es ∧ w.heap[b]? = some o)
    (h : J P f n R G S all rest k ((d, .tuple #[(alook es key).getD z, .bool (alook es key).isSome]) :: L) H) : J P f n R G S all (.cons false true ⟨some d, .lookup t x y true, ty, pos, af, gd⟩ rest) k L H :=
  J_read hd (fun a w ha hw => by
    obtain ⟨o, hm, hb⟩ := hi w hw
    subst hkv
    simp [execOp, ha.ev hx, ha.ev hy, run_lookup (P := P) (key := key) true hko ht hu he hz hm hb]) h
theorem J_lookupS {t kt et : TypeId} {ty' te : Ty} {z : Value} {x y : Operand} {b : Nat} {es : List (κ × Value)} {key : κ} {kval : Value} (hd : Nat.blt d n = true) (hko : KeyOk P kt kv)
    (hx : ev L x = some (.map (some b))) (hy : ev L y = some kval) (hkv : kval = kv key) (ht : U.get t = some ty') (hu : ty'.und = .map kt et) (he : U.get et = some te) (hz : te.info.zero = some z) (hi : ∀ w, S w → ∃ o, mapW kv o es ∧ w.heap[b]? = some o)
    (h : J P f n R G S all rest k ((d, (alook es key).getD z) :: L) H) : J P f n R G S all (.cons true true ⟨some d, .lookup t x y false, ty, pos, af, gd⟩ rest) k L H :=
  J_readS hd (fun a w ha hw => by
    obtain ⟨o, hm, hb⟩ := hi w hw
    subst hkv
    simp [execOp, ha.ev hx, ha.ev hy, run_lookup (P := P) (key := key) false hko ht hu he hz hm hb]) h
theorem J_lookupOkS {t kt et : TypeId} {ty' te : Ty} {z : Value} {x y : Operand} {b : Nat} {es : List (κ × Value)} {key : κ} {kval : Value} (hd : Nat.blt d n = true) (hko : KeyOk P kt kv)
    (hx : ev L x = some (.map (some b))) (hy : ev L y = some kval) (hkv : kval = kv key) (ht : U.get t = some ty') (hu : ty'.und = .map kt et) (he : U.get et = some te) (hz : te.info.zero = some z) (hi : ∀ w, S w → ∃ o, mapW kv o es ∧ w.heap[b]? = some o)
    (h : J P f n R G S all rest k ((d, .tuple #[(alook es key).getD z, .bool (alook es key).isSome]) :: L) H) : J P f n R G S all (.cons true true ⟨some d, .lookup t x y true, ty, pos, af, gd⟩ rest) k L H :=
  J_readS hd (fun a w ha hw => by
    obtain ⟨o, hm, hb⟩ := hi w hw
    subst hkv
    simp [execOp, ha.ev hx, ha.ev hy, run_lookup (P := P) (key := key) true hko ht hu he hz hm hb]) h
theorem J_lookupNil {t kt et : TypeId} {ty' te : Ty} {z : Value} {x y : Operand} {key : κ} {kval : Value} (hd : Nat.blt d n = true) (hko : KeyOk P kt kv)
    (hx : ev L x = some (.map none)) (hy : ev L y = some kval) (hkv : kval = kv key) (ht : U.get t = some ty') (hu : ty'.und = .map kt et) (he : U.get et = some te) (hz : te.info.zero = some z)
    (h : J P f n R G S all rest k ((d, z) :: L) H) : J P f n R G S all (.cons m true ⟨some d, .lookup t x y false, ty, pos, af, gd⟩ rest) k L H :=
  J_pure hd (fun a ha w => by
    subst hkv
    obtain ⟨r, hr, hcase⟩ := hko.find key [] [] w rfl
    have : r = none := by rcases hcase with ⟨h, _⟩ | ⟨i, e, _, hi, _⟩; exact h; simp at hi
    subst this
    simp [execOp, ha.ev hx, ha.ev hy, Instr.lookup, run_underlying ht, hu, hko.check, hr, run_zeroValue he hz]) h
theorem J_lookupNilOk {t kt et : TypeId} {ty' te : Ty} {z : Value} {x y : Operand} {key : κ} {kval : Value} (hd : Nat.blt d n = true) (hko : KeyOk P kt kv)
    (hx : ev L x = some (.map none)) (hy : ev L y = some kval) (hkv : kval = kv key) (ht : U.get t = some ty') (hu : ty'.und = .map kt et) (he : U.get et = some te) (hz : te.info.zero = some z)
    (h : J P f n R G S all rest k ((d, .tuple #[z, .bool false]) :: L) H) : J P f n R G S all (.cons m true ⟨some d, .lookup t x y true, ty, pos, af, gd⟩ rest) k L H :=
  J_pure hd (fun a ha w => by
    subst hkv
    obtain ⟨r, hr, hcase⟩ := hko.find key [] [] w rfl
    have : r = none := by rcases hcase with ⟨h, _⟩ | ⟨i, e, _, hi, _⟩; exact h; simp at hi
    subst this
    simp [execOp, ha.ev hx, ha.ev hy, Instr.lookup, run_underlying ht, hu, hko.check, hr, run_zeroValue he hz]) h

/-! ## writing -/
theorem mapW_set {entries : Array MapEntry} {clock : Nat} {es : List (κ × Value)} {key : κ} {v : Value} {i : Nat} {e : MapEntry} (hm : mapW kv (.map entries clock) es) (hi : entries.toList[i]? = some e) (hk : (es.map (·.1))[i]? = some key) :
    mapW kv (.map (entries.modify i fun e => { e with key := kv key, val := v }) clock) (aset es key v) := by
  obtain ⟨entries', clock', heq, hes, hnd, hborn, hbn⟩ := hm
  cases heq
  have hmem : key ∈ es.map (·.1) := List.mem_of_getElem? hk
  have hmod : (entries.modify i fun e => { e with key := kv key, val := v }).toList = entries.toList.modify i (fun e => { e with key := kv key, val := v }) := by simp
  refine ⟨_, clock, rfl, ?_, ?_, ?_, ?_⟩
  · rw [hmod]
    apply List.ext_getElem?
    intro j
    have hj := congrArg (·[j]?) hes
    simp only [List.getElem?_map] at hj
    simp only [aset, hmem, if_true, List.getElem?_map, List.getElem?_modify]
    cases hx : es[j]? with
    | none =>
      rw [hx] at hj
      simp at hj
      simp [hj]
    | some x =>
      rw [hx] at hj
      simp only [Option.map_some] at hj
      cases hy : entries.toList[j]? with
      | none => rw [hy] at hj; cases hj
      | some y =>
        rw [hy] at hj
        simp only [Option.map_some, Option.some.injEq, Prod.mk.injEq] at hj
        by_cases hij : i = j
        · subst hij
          simp only [List.getElem?_map, hx, Option.map_some, Option.some.injEq] at hk
          simp [hk]
        · have hne : x.1 ≠ key := fun hxk => by
            have h1 : (es.map (·.1))[j]? = some key := by simp [hx, hxk]
            exact hij ((List.getElem?_inj (by
              rcases Nat.lt_or_ge i (es.map (·.1)).length with h | h
              · exact h
              · rw [List.getElem?_eq_none h] at hk; cases hk) hnd).1 (hk.trans h1.symm))
          simp [hij, hne, hj.1, hj.2]
  · have : (aset es key v).map (·.1) = es.map (·.1) := by
      simp only [aset, hmem, if_true, List.map_map]
      apply List.map_congr_left
      intro x _
      simp only [Function.comp]
      split
      · rename_i h; exact h.symm
      · rfl
    rw [this]; exact hnd
  · intro e' he'
    rw [hmod] at he'
    obtain ⟨j, hj⟩ := List.getElem?_of_mem he'
    rw [List.getElem?_modify] at hj
    cases hy : entries.toList[j]? with
    | none => rw [hy] at hj; cases hj
    | some y =>
      rw [hy] at hj
      have := hborn y (List.mem_of_getElem? hy)
      simp at hj
      split at hj <;> (subst hj; exact this)
  · rw [hmod]
    have : (entries.toList.modify i (fun e => { e with key := kv key, val := v })).map (·.born) = entries.toList.map (·.born) := by
      apply List.ext_getElem?
      intro j
      simp only [List.getElem?_map, List.getElem?_modify]
      cases hy : entries.toList[j]? with
      | none => rfl
      | some y => simp only [Option.map_some]; split <;> rfl
    rw [this]; exact hbn

theorem mapW_push {entries : Array MapEntry} {clock : Nat} {es : List (κ × Value)} {key : κ} {v : Value} (hm : mapW kv (.map entries clock) es) (hn : key ∉ es.map (·.1)) :
    mapW kv (.map (entries.push { key := kv key, val := v, born := clock }) (clock + 1)) (aset es key v) := by
  obtain ⟨entries', clock', heq, hes, hnd, hborn, hbn⟩ := hm
  cases heq
  refine ⟨_, clock + 1, rfl, ?_, ?_, ?_, ?_⟩
  · simp [aset, hn, hes]
  · simp only [aset, hn, if_false, List.map_append, List.map_cons, List.map_nil]
    rw [List.nodup_append]
    exact ⟨hnd, by simp, fun a ha b hb => by simp at hb; subst hb; rintro rfl; exact hn ha⟩
  · intro e he
    simp only [Array.toList_push, List.mem_append, List.mem_singleton] at he
    rcases he with he | rfl
    · have := hborn e he; omega
    · simp
  · simp only [Array.toList_push, List.map_append, List.map_cons, List.map_nil]
    rw [List.nodup_append]
    refine ⟨hbn, by simp, fun a ha b hb => ?_⟩
    simp at hb
    subst hb
    obtain ⟨e, he, rfl⟩ := List.mem_map.1 ha
    have := hborn e he
    omega

theorem run_update {t kt et : TypeId} {ty' : Ty} {b : Nat} {es : List (κ × Value)} {key : κ} {v : Value} {w : World} {i : Nat} (hko : KeyOk P kt kv) (ht : U.get t = some ty') (hu : ty'.und = .map kt et) (hw : Sat G w H) (hi : getL H i = some (mapR kv b es)) (hp : putP i (mapR kv b (aset es key v)) H [] = .mk H') :
    ∃ w', (Instr.mapUpdate t (.map (some b)) (kv key) v).run P w = .ok () w' ∧ Sat G w' H' := by
  obtain ⟨o, hm, hb⟩ := hw.getMap hi
  have hm0 := hm
  obtain ⟨entries, clock, rfl, hes, hnd, hborn, hbn⟩ := hm
  have hks : entries.toList.map (·.key) = (es.map (·.1)).map kv := by
    have := congrArg (List.map (·.1)) hes
    simpa [Function.comp_def] using this
  obtain ⟨r, hr, hcase⟩ := hko.find key entries.toList (es.map (·.1)) w hks
  have hset : ∀ o', (setObj b o').run P w = .ok () { w with heap := w.heap.setIfInBounds b o' } := fun o' => by simp [setObj, Sem.run, hb]
  rcases hcase with ⟨rfl, hn⟩ | ⟨j, e, rfl, hj, hk, hlt⟩
  · refine ⟨_, ?_, hw.putMap hi (mapW_push (v := v) hm0 hn) hp⟩
    unfold Instr.mapUpdate
    simp only [Sem.run_bind, run_underlying ht, Result.andThen_ok, hu, run_getObj_map hb, hko.check, hr, hset]
  · refine ⟨_, ?_, hw.putMap hi (mapW_set (v := v) hm0 hj hk) hp⟩
    have hek : e.key = kv key := by
      have h1 := congrArg (·[j]?) hks
      simp only [List.getElem?_map, hj, Option.map_some] at h1 hk
      rw [hk] at h1
      simpa using h1
    have hj' : entries[j]? = some e := by simpa using hj
    unfold Instr.mapUpdate
    simp only [Sem.run_bind, run_underlying ht, Result.andThen_ok, hu, run_getObj_map hb, hko.check, hr, hj', Option.map_some, Option.getD_some, hek, Instr.keyThatStays, hko.bits, if_true, Sem.run_pure, hset]

theorem J_mapUpdate {t kt et : TypeId} {ty' : Ty} {x y v0 : Operand} {b : Nat} {es : List (κ × Value)} {key : κ} {kval v : Value} (i : Nat) (hko : KeyOk P kt kv)
    (hS : ∀ w, Sat G w H' → Sx rest S w)
    (hx : ev L x = some (.map (some b))) (hy : ev L y = some kval) (hkv : kval = kv key) (hv : ev L v0 = some v) (ht : U.get t = some ty') (hu : ty'.und = .map kt et) (hi : getL H i = some (mapR kv b es)) (hp : putP i (mapR kv b (aset es key v)) H [] = .mk H')
    (h : J P f n R G S all rest k L H') : J P f n R G S all (.cons false true ⟨none, .mapUpdate t x y v0, ty, pos, af, gd⟩ rest) k L H := by
  refine J_act0 (fun H1 => H1 = H') (fun a w ha hw => ?_) (fun H1 w e hw => hS w (e ▸ hw)) (fun H1 e => e ▸ h)
  subst hkv
  obtain ⟨w', hr, hs⟩ := run_update (P := P) hko ht hu hw hi hp
  exact ⟨w', H', by simp [execOp, ha.ev hx, ha.ev hy, ha.ev hv, hr], rfl, hs⟩
theorem J_insert {t kt et : TypeId} {ty' : Ty} {x y v0 : Operand} {b : Nat} {es : List (κ × Value)} {key : κ} {kval v : Value} (i : Nat) (hko : KeyOk P kt kv)
    (hS : ∀ w, Sat G w H' → Sx rest S w)
    (hx : ev L x = some (.map (some b))) (hy : ev L y = some kval) (hkv : kval = kv key) (hv : ev L v0 = some v) (ht : U.get t = some ty') (hu : ty'.und = .map kt et) (hi : getL H i = some (mapR kv b es)) (hp : putP i (mapR kv b (aset es key v)) H [] = .mk H')
    (h : J P f n R G S all rest k L H') : J P f n R G S all (.cons false true ⟨none, .insert t x y v0, ty, pos, af, gd⟩ rest) k L H := by
  refine J_act0 (fun H1 => H1 = H') (fun a w ha hw => ?_) (fun H1 w e hw => hS w (e ▸ hw)) (fun H1 e => e ▸ h)
  subst hkv
  obtain ⟨w', hr, hs⟩ := run_update (P := P) hko ht hu hw hi hp
  exact ⟨w', H', by simp [execOp, ha.ev hx, ha.ev hy, ha.ev hv, hr], rfl, hs⟩

theorem filter_erase {es : List (κ × Value)} {key : κ} : ∀ {i : Nat}, (es.map (·.1)).Nodup → (es.map (·.1))[i]? = some key → adel es key = es.eraseIdx i := by
  induction es with
  | nil => intro i _ h; simp at h
  | cons x es ih =>
    intro i hnd hk
    simp only [List.map_cons, List.nodup_cons] at hnd
    cases i with
    | zero =>
      simp at hk
      subst hk
      simp only [adel, decide_true, Bool.not_true, List.filter_cons, Bool.false_eq_true, if_false, List.eraseIdx_cons_zero]
      apply List.filter_eq_self.2
      intro y hy
      simp only [Bool.not_eq_true', decide_eq_false_iff_not]
      intro e
      exact hnd.1 (List.mem_map.2 ⟨y, hy, e⟩)
    | succ i =>
      simp at hk
      have hne : x.1 ≠ key := fun e => hnd.1 (by rw [e]; exact List.mem_of_getElem? (by simpa using hk))
      have := ih hnd.2 (i := i) (by simpa using hk)
      simp only [adel] at this ⊢
      simp [hne, this]
theorem adel_none {es : List (κ × Value)} {key : κ} (h : key ∉ es.map (·.1)) : adel es key = es := by
  apply List.filter_eq_self.2
  intro y hy
  simp only [Bool.not_eq_true', decide_eq_false_iff_not]
  intro e
  exact h (List.mem_map.2 ⟨y, hy, e⟩)

theorem mapW_del {entries : Array MapEntry} {clock : Nat} {es : List (κ × Value)} {key : κ} {i : Nat} {e : MapEntry} (hm : mapW kv (.map entries clock) es) (hi : entries.toList[i]? = some e) (hk : (es.map (·.1))[i]? = some key) :
    mapW kv (.map (entries.eraseIdxIfInBounds i) clock) (adel es key) := by
  obtain ⟨entries', clock', heq, hes, hnd, hborn, hbn⟩ := hm
  cases heq
  have hel : (entries.eraseIdxIfInBounds i).toList = entries.toList.eraseIdx i := by simp
  rw [filter_erase hnd hk]
  refine ⟨_, clock, rfl, ?_, ?_, ?_, ?_⟩
  · rw [hel, map_eraseIdx', map_eraseIdx', hes]
  · rw [map_eraseIdx']; exact hnd.eraseIdx _
  · intro e' he'; rw [hel] at he'; exact hborn e' (List.mem_of_mem_eraseIdx he')
  · rw [hel, map_eraseIdx']; exact hbn.eraseIdx _

theorem J_delete {t kt et : TypeId} {ty' : Ty} {x y : Operand} {t2 : TypeId} {b : Nat} {es : List (κ × Value)} {key : κ} {kval : Value} (i : Nat) (hko : KeyOk P kt kv)
    (hS : ∀ w, Sat G w H' → Sx rest S w)
    (hx : ev L x = some (.map (some b))) (hy : ev L y = some kval) (hkv : kval = kv key) (ht : U.get t = some ty') (hu : ty'.und = .map kt et) (hi : getL H i = some (mapR kv b es)) (hp : putP i (mapR kv b (adel es key)) H [] = .mk H')
    (h : J P f n R G S all rest k L H') : J P f n R G S all (.cons false true ⟨none, .call { callee := .builtin .delete, args := #[x, y], argTypes := #[t, t2] }, ty, pos, af, gd⟩ rest) k L H := by
  intro a w ha hw _
  subst hkv
  obtain ⟨o, hm, hb⟩ := hw.getMap hi
  have hm0 := hm
  obtain ⟨entries, clock, rfl, hes, hnd, hborn, hbn⟩ := hm
  have hks : entries.toList.map (·.key) = (es.map (·.1)).map kv := by
    have := congrArg (List.map (·.1)) hes
    simpa [Function.comp_def] using this
  obtain ⟨r, hr, hcase⟩ := hko.find key entries.toList (es.map (·.1)) w hks
  have hset : ∀ o', (setObj b o').run P w = .ok () { w with heap := w.heap.setIfInBounds b o' } := fun o' => by simp [setObj, Sem.run, hb]
  refine .inl ⟨.inl rfl, .inr ⟨rfl, ?_⟩⟩
  rcases hcase with ⟨rfl, hn⟩ | ⟨j, e, rfl, hj, hk, hlt⟩
  · have hs := hw.putMap hi (o' := .map entries clock) (es' := adel es key) (by rw [adel_none hn]; exact hm0) hp
    have : (execOp a.eval ⟨none, .call { callee := .builtin .delete, args := #[x, y], argTypes := #[t, t2] }, ty, pos, af, gd⟩).run P w = .ok (.value (.tuple #[])) { w with heap := w.heap.setIfInBounds b (.map entries clock) } := by
      simp only [execOp, resolve, invoke, builtin, Sem.run_bind, Sem.run_pure, Result.andThen_ok, List.map_toArray, List.map_cons, List.map_nil, ha.ev hx, ha.ev hy, Builtin.delete_, List.getElem?_toArray, List.getElem?_cons_zero, List.getElem?_cons_succ,
        run_underlying ht, hu, run_getObj_map hb, hko.check, hr, hset]
    exact wpIn_value this ⟨hS _ hs, h a _ ha hs (hS _ hs)⟩
  · have hs := hw.putMap hi (mapW_del hm0 hj hk) hp
    have : (execOp a.eval ⟨none, .call { callee := .builtin .delete, args := #[x, y], argTypes := #[t, t2] }, ty, pos, af, gd⟩).run P w = .ok (.value (.tuple #[])) { w with heap := w.heap.setIfInBounds b (.map (entries.eraseIdxIfInBounds j) clock) } := by
      simp only [execOp, resolve, invoke, builtin, Sem.run_bind, Sem.run_pure, Result.andThen_ok, List.map_toArray, List.map_cons, List.map_nil, ha.ev hx, ha.ev hy, Builtin.delete_, List.getElem?_toArray, List.getElem?_cons_zero, List.getElem?_cons_succ,
        run_underlying ht, hu, run_getObj_map hb, hko.check, hr, hset]
    exact wpIn_value this ⟨hS _ hs, h a _ ha hs (hS _ hs)⟩

theorem run_lenMap {t kt et : TypeId} {ty' : Ty} {b : Nat} {es : List (κ × Value)} {o : Obj} {w : World} {rty : TypeId} (ht : U.get t = some ty') (hu : ty'.und = .map kt et) (hm : mapW kv o es) (hb : w.heap[b]? = some o) :
    (Builtin.len_ #[t] rty #[.map (some b)]).run P w = .ok (.int .i64 es.length) w := by
  obtain ⟨entries, clock, rfl, hes, hnd, hborn, hbn⟩ := hm
  have hl : entries.size = es.length := by have := congrArg List.length hes; simpa using this
  simp [Builtin.len_, run_underlying ht, hu, run_getObj_map hb, goInt, hl]
theorem J_lenMap {t kt et : TypeId} {ty' : Ty} {x : Operand} {b : Nat} {es : List (κ × Value)} (i : Nat) (hd : Nat.blt d n = true)
    (hx : ev L x = some (.map (some b))) (ht : U.get t = some ty') (hu : ty'.und = .map kt et) (hi : getL H i = some (mapR kv b es))
    (h : J P f n R G S all rest k ((d, .int .i64 es.length) :: L) H) : J P f n R G S all (.cons false true ⟨some d, .call { callee := .builtin .len, args := #[x], argTypes := #[t] }, ty, pos, af, gd⟩ rest) k L H :=
  J_read hd (fun a w ha hw => by
    obtain ⟨o, hm, hb⟩ := hw.getMap hi
    simp [execOp, resolve, invoke, builtin, ha.ev hx, run_lenMap (P := P) ht hu hm hb]) h
theorem J_lenMapC {t kt et : TypeId} {ty' : Ty} {x : Operand} {b : Nat} {es : List (κ × Value)} (hd : Nat.blt d n = true)
    (hx : ev L x = some (.map (some b))) (ht : U.get t = some ty') (hu : ty'.und = .map kt et) (hi : ∀ w, Sat G w H → ∃ o, mapW kv o es ∧ w.heap[b]? = some o)
    (h : J P f n R G S all rest k ((d, .int .i64 es.length) :: L) H) : J P f n R G S all (.cons false true ⟨some d, .call { callee := .builtin .len, args := #[x], argTypes := #[t] }, ty, pos, af, gd⟩ rest) k L H :=
  J_read hd (fun a w ha hw => by
    obtain ⟨o, hm, hb⟩ := hi w hw
    simp [execOp, resolve, invoke, builtin, ha.ev hx, run_lenMap (P := P) ht hu hm hb]) h
theorem J_lenMapS {t kt et : TypeId} {ty' : Ty} {x : Operand} {b : Nat} {es : List (κ × Value)} (hd : Nat.blt d n = true)
    (hx : ev L x = some (.map (some b))) (ht : U.get t = some ty') (hu : ty'.und = .map kt et) (hi : ∀ w, S w → ∃ o, mapW kv o es ∧ w.heap[b]? = some o)
    (h : J P f n R G S all rest k ((d, .int .i64 es.length) :: L) H) : J P f n R G S all (.cons true true ⟨some d, .call { callee := .builtin .len, args := #[x], argTypes := #[t] }, ty, pos, af, gd⟩ rest) k L H :=
  J_readS hd (fun a w ha hw => by
    obtain ⟨o, hm, hb⟩ := hi w hw
    simp [execOp, resolve, invoke, builtin, ha.ev hx, run_lenMap (P := P) ht hu hm hb]) h

/-! ## ranging over a map that nobody turns -/
def mapI (kv : κ → Value) (b it : Nat) (es : List (κ × Value)) (done : List κ) : HP := fun h =>
  ∃ entries clock seen, mapW kv (.map entries clock) es ∧ (∀ (i : Nat) (e : MapEntry) (x : κ × Value), entries.toList[i]? = some e → es[i]? = some x → (seen.contains e.born = true ↔ x.1 ∈ done)) ∧
    (∀ key, done.head? = some key → ∃ e ∈ entries.toList, e.key = kv key ∧ seen.back? = some e.born) ∧
    star (pts b (.map entries clock)) (pts it (.mapIter (some b) clock seen clock)) h
theorem mapI_mapR {b it : Nat} {es : List (κ × Value)} {done : List κ} : ∀ h, mapI kv b it es done h → ∃ h', sub h' h ∧ mapR kv b es h' := by
  rintro h ⟨entries, clock, seen, hm, _, _, hs⟩
  obtain ⟨h', s, hp⟩ := star_left hs
  exact ⟨h', s, _, hm, hp⟩
theorem mapI_nodup {b it : Nat} {es : List (κ × Value)} {done : List κ} {h : Hp} (hm : mapI kv b it es done h) : (es.map (·.1)).Nodup := by
  obtain ⟨_, _, _, ⟨_, _, _, _, hn, _⟩, _⟩ := hm; exact hn

theorem J_range {t kt et : TypeId} {ty' : Ty} {x : Operand} {b : Nat} {es : List (κ × Value)} (i : Nat) (hd : Nat.blt d n = true)
    (hx : ev L x = some (.map (some b))) (ht : U.get t = some ty') (hu : ty'.und = .map kt et) (hi : getL H i = some (mapR kv b es)) {Hf : Nat → List HP} (hp : ∀ it, putP i (mapI kv b it es []) H [] = .mk (Hf it))
    (hS : ∀ it w, Sat G w (Hf it) → Sx rest S w)
    (h : ∀ it, J P f n R G S all rest k ((d, .pointer (some ⟨it, 0, none⟩)) :: L) (Hf it)) : J P f n R G S all (.cons false true ⟨some d, .range t x, ty, pos, af, gd⟩ rest) k L H := by
  refine J_act hd (fun u H1 => ∃ it, u = .pointer (some ⟨it, 0, none⟩) ∧ H1 = Hf it) (fun a w ha hw => ?_) ?_ ?_
  · obtain ⟨o, hm, hb⟩ := hw.getMap hi
    have hs1 := hw.ent (Ent.perm (perm_of_get (by rw [← getL_eq]; exact hi)))
    obtain ⟨hT, hO, hU', hh, hsub, h1, h2, ⟨o', ho', hpt⟩, hB, hdj, hj⟩ := hs1
    have hoo : o' = o := by
      have : w.heap[b]? = some o' := hsub b o' (by rw [hj b, hpt b]; simp)
      rw [hb] at this; cases this; rfl
    subst hoo
    have hs2 : Sat G w (pts b o' :: H.eraseIdx i) := ⟨hT, hO, hU', hh, hsub, h1, h2, hpt, hB, hdj, hj⟩
    obtain ⟨entries, clock, rfl, hrest⟩ := hm
    refine ⟨_, { w with heap := w.heap.push (.mapIter (some b) clock #[] clock) }, Hf w.heap.size, ?_, ⟨w.heap.size, rfl, rfl⟩, ?_⟩
    · simp only [execOp, ha.ev hx, Instr.range, Sem.run_bind, run_underlying ht, Result.andThen_ok, hu, run_getObj_map hb, Sem.run_pure, run_newObj]
    · have h3 := hs2.alloc (.mapIter (some b) clock #[] clock)
      have h4 := putP_eq i _ _ H [] (Hf w.heap.size) (hp _) hi
      refine (h3.ent ?_).ent (Ent.perm (by simpa using h4.symm))
      refine (Ent.perm (List.Perm.swap _ _ _)).trans ?_
      refine Ent.fold (B := [_, _]) fun h hs => ⟨h, sub.refl h, entries, clock, #[], ⟨entries, clock, rfl, hrest⟩, fun i e x _ _ => by simp, by simp, ?_⟩
      exact star_mono (fun _ h => h) (fun _ h => Sep_one h) hs
  · rintro u H1 w ⟨it, rfl, rfl⟩ hw; exact hS it w hw
  · rintro u H1 ⟨it, rfl, rfl⟩; exact h it

theorem J_entry {x : Operand} {b it : Nat} {es : List (κ × Value)} {done : List κ} {key : κ} {v : Value} (i : Nat) (hd : Nat.blt d n = true) (hinj : ∀ a b, kv a = kv b → a = b)
    (hx : ev L x = some (.pointer (some ⟨it, 0, none⟩))) (hi : getL H i = some (mapI kv b it es (key :: done))) (hv : (key, v) ∈ es)
    (h : J P f n R G S all rest k ((d, .tuple #[kv key, v]) :: L) H) : J P f n R G S all (.cons false true ⟨some d, .entry x, ty, pos, af, gd⟩ rest) k L H :=
  J_read hd (fun a w ha hw => by
    have hs1 := hw.ent (Ent.perm (perm_of_get (by rw [← getL_eq]; exact hi)))
    obtain ⟨hT, hO, hU', hh, hsub, h1, h2, hA, hB, hdj, hj⟩ := hs1
    obtain ⟨entries, clock, seen, hm, hseen, hlast, h3, h4, hb1, hit1, hdj2, hj2⟩ := hA
    have hb : w.heap[b]? = some (.map entries clock) := hsub b _ (by rw [hj b, hj2 b, hb1 b]; simp)
    have hit : w.heap[it]? = some (.mapIter (some b) clock seen clock) := by
      refine hsub it _ ?_
      rw [hj it, hj2 it, hit1 it]
      rcases hdj2 it with e | e
      · rw [e]; simp
      · rw [hit1 it] at e; simp at e
    obtain ⟨entries', clock', heq, hes, hnd, hborn, hbn⟩ := hm
    cases heq
    have hgm := run_getObj_map (P := P) hb
    have hgi : (getObj it).run P w = .ok (.mapIter (some b) clock seen clock) w := by simp [getObj, Sem.run, hit]
    obtain ⟨e, he, hek, hback⟩ := hlast key rfl
    -- the cell's value
    obtain ⟨j, hj3⟩ := List.getElem?_of_mem he
    have hev : e.val = v := by
      have h6 := congrArg (·[j]?) hes
      simp only [List.getElem?_map, hj3, Option.map_some] at h6
      cases hx2 : es[j]? with
      | none => rw [hx2] at h6; cases h6
      | some x2 =>
        rw [hx2] at h6
        simp only [Option.map_some, Option.some.injEq, Prod.mk.injEq] at h6
        have hkk : x2.1 = key := hinj _ _ (h6.1.symm.trans hek)
        obtain ⟨j2, hj2'⟩ := List.getElem?_of_mem hv
        have h11 : (es.map (·.1))[j]? = (es.map (·.1))[j2]? := by simp only [List.getElem?_map, hx2, hj2', Option.map_some, hkk]
        have h12 : j = j2 := (List.getElem?_inj (by
          have : j < es.length := by
            rcases Nat.lt_or_ge j es.length with h | h
            · exact h
            · rw [List.getElem?_eq_none h] at hx2; cases hx2
          rw [List.length_map]; exact this) hnd).1 h11
        subst h12
        rw [hx2] at hj2'
        cases hj2'
        exact h6.2
    have hfind : entries.find? (fun x => x.born == e.born) = some e := by
      rw [← Array.find?_toList]
      cases hf : entries.toList.find? (fun x => x.born == e.born) with
      | none => have := List.find?_eq_none.1 hf e he; simp at this
      | some e2 =>
        have h1 := List.find?_some hf
        have h2 := List.mem_of_find?_eq_some hf
        simp only [beq_iff_eq] at h1
        obtain ⟨j2, hj2'⟩ := List.getElem?_of_mem h2
        have h11 : (entries.toList.map (·.born))[j2]? = (entries.toList.map (·.born))[j]? := by simp only [List.getElem?_map, hj3, hj2', Option.map_some, h1]
        have h12 : j2 = j := (List.getElem?_inj (by
          have : j2 < entries.toList.length := by
            rcases Nat.lt_or_ge j2 entries.toList.length with h | h
            · exact h
            · rw [List.getElem?_eq_none h] at hj2'; cases hj2'
          rw [List.length_map]; exact this) hbn).1 h11
        subst h12
        rw [hj3] at hj2'
        cases hj2'
        rfl
    simp only [execOp, ha.ev hx, Instr.entry, Sem.run_bind, hgi, hgm, Result.andThen_ok, hback, hfind, Sem.run_pure, hek, hev, bne_self_eq_false, Bool.false_eq_true, if_false]) h

theorem J_next {x : Operand} {b it : Nat} {es : List (κ × Value)} {done : List κ} (i : Nat) (hd : Nat.blt d n = true) (hinj : ∀ a b, kv a = kv b → a = b)
    (hx : ev L x = some (.pointer (some ⟨it, 0, none⟩))) (hi : getL H i = some (mapI kv b it es done)) {Hf : κ → List HP} (hp : ∀ key, putP i (mapI kv b it es (key :: done)) H [] = .mk (Hf key))
    (hS0 : ∀ w, Sat G w H → Sx rest S w) (hS : ∀ key w, Sat G w (Hf key) → Sx rest S w)
    (hend : (∀ y ∈ es, y.1 ∈ done) → J P f n R G S all rest k ((d, .tuple #[.bool false]) :: L) H)
    (hgo : ∀ key v, (key, v) ∈ es → key ∉ done → J P f n R G S all rest k ((d, .tuple #[.bool true, kv key, v]) :: L) (Hf key)) :
    J P f n R G S all (.cons false true ⟨some d, .next x false, ty, pos, af, gd⟩ rest) k L H := by
  intro a w ha hw _
  refine .inl ⟨.inl rfl, .inr ⟨rfl, ?_⟩⟩
  have hs1 := hw.ent (Ent.perm (perm_of_get (by rw [← getL_eq]; exact hi)))
  obtain ⟨hT, hO, hU', hh, hsub, h1, h2, hA, hB, hdj, hj⟩ := hs1
  obtain ⟨entries, clock, seen, hm, hseen, _, h3, h4, hb1, hit1, hdj2, hj2⟩ := hA
  have hb : w.heap[b]? = some (.map entries clock) := hsub b _ (by rw [hj b, hj2 b, hb1 b]; simp)
  have hit : w.heap[it]? = some (.mapIter (some b) clock seen clock) := by
    refine hsub it _ ?_
    rw [hj it, hj2 it, hit1 it]
    rcases hdj2 it with e | e
    · rw [e]; simp
    · rw [hit1 it] at e; simp at e
  obtain ⟨entries', clock', heq, hes, hnd, hborn, hbn⟩ := hm
  cases heq
  have hgm := run_getObj_map (P := P) hb
  have hgi : (getObj it).run P w = .ok (.mapIter (some b) clock seen clock) w := by simp [getObj, Sem.run, hit]
  have hall : (!seen.isEmpty && !entries.isEmpty && entries.all (·.born ≥ clock)) = false := by
    cases he : entries.isEmpty with
    | true => simp
    | false =>
      have hne : entries.toList ≠ [] := by simpa [Array.isEmpty_iff] using he
      obtain ⟨e, l, hel⟩ := List.exists_cons_of_ne_nil hne
      have h5 := hborn e (by rw [hel]; simp)
      have : entries.all (fun x => decide (x.born ≥ clock)) = false := by
        rw [← Array.all_toList, hel]
        simp
        intro h; omega
      rw [this]; simp
  have hold : ∀ (l : Array MapEntry), (∀ e ∈ l.toList, e ∈ entries.toList) → l.filter (·.born < clock) = l ∧ l.filter (·.born ≥ clock) = #[] := by
    intro l hl
    constructor
    · apply Array.filter_eq_self.2
      intro e he; simpa using hborn e (hl e (by simpa using he))
    · apply Array.filter_eq_empty_iff.2
      intro e he; have := hborn e (hl e (by simpa using he)); simp; omega
  have hleft := hold (entries.filter fun e => !seen.contains e.born) (fun e he => by simp at he; simpa using he.1)
  -- the entry that comes, if one does
  have hmemx : ∀ e, e ∈ entries.toList → ∃ (j : Nat) (x : κ × Value), entries.toList[j]? = some e ∧ es[j]? = some x ∧ x ∈ es ∧ e.key = kv x.1 ∧ e.val = x.2 ∧ (seen.contains e.born = true ↔ x.1 ∈ done) := by
    intro e he
    obtain ⟨j, hj3⟩ := List.getElem?_of_mem he
    have h6 := congrArg (·[j]?) hes
    simp only [List.getElem?_map, hj3, Option.map_some] at h6
    cases hx2 : es[j]? with
    | none => rw [hx2] at h6; cases h6
    | some x2 =>
      rw [hx2] at h6
      simp only [Option.map_some, Option.some.injEq, Prod.mk.injEq] at h6
      exact ⟨j, x2, hj3, hx2, List.mem_of_getElem? hx2, h6.1, h6.2, hseen j e x2 hj3 hx2⟩
  have hxmem : ∀ x, x ∈ es → ∃ e, e ∈ entries.toList ∧ e.key = kv x.1 ∧ (seen.contains e.born = true ↔ x.1 ∈ done) := by
    intro x2 hx2
    obtain ⟨j, hj3⟩ := List.getElem?_of_mem hx2
    have h6 := congrArg (·[j]?) hes
    simp only [List.getElem?_map, hj3, Option.map_some] at h6
    cases he : entries.toList[j]? with
    | none => rw [he] at h6; cases h6
    | some e =>
      rw [he] at h6
      simp only [Option.map_some, Option.some.injEq, Prod.mk.injEq] at h6
      exact ⟨e, List.mem_of_getElem? he, h6.1, hseen j e x2 he hj3⟩
  have hrun0 : (execOp a.eval ⟨some d, .next x false, ty, pos, af, gd⟩) = (do let v ← Instr.next (.pointer (some ⟨it, 0, none⟩)) false ty; pure (.value v)) := by simp only [execOp, ha.ev hx]
  refine wpIn_other (fun c hc => by cases hc) rfl ?_
  rw [hrun0]
  simp only [Sem.run_bind, Instr.next, hgi, Result.andThen_ok, hgm, hall, Bool.false_eq_true, if_false, hleft.1, hleft.2, Array.append_empty]
  by_cases hemp : (entries.filter fun e => !seen.contains e.born).isEmpty = true
  · have he : (entries.filter fun e => !seen.contains e.born) = #[] := Array.isEmpty_iff.1 hemp
    have hdone : ∀ y ∈ es, y.1 ∈ done := by
      intro y hy
      obtain ⟨e, hem, _, hiff⟩ := hxmem y hy
      apply hiff.1
      cases hc : seen.contains e.born with
      | true => rfl
      | false =>
        have : e ∈ (entries.filter fun e => !seen.contains e.born) := by simp only [Array.mem_filter]; exact ⟨by simpa using hem, by rw [hc]; rfl⟩
        rw [he] at this; simp at this
    have := hend hdone
    simp only [he, Array.isEmpty_empty, if_true, Array.map_empty, Array.append_empty, Sem.run_bind, run_choose]
    simp only [Question.forced, List.size_toArray, List.length_singleton, Nat.le_refl, decide_true, if_true, Result.andThen_ok, List.getElem?_toArray, List.getElem?_cons_zero, Sem.run_pure]
    exact ⟨hS0 w hw, this _ w (ha.put hd _) hw (hS0 w hw)⟩
  · have hemp' : (entries.filter fun e => !seen.contains e.born).isEmpty = false := by simpa using hemp
    obtain ⟨q, w1, hq, hw1, hchoice⟩ : ∃ q w1, q < (entries.filter fun e => !seen.contains e.born).size ∧ (w1 = w ∨ w1 = w.drew) ∧
        (choose (.mapNext ((entries.filter fun e => !seen.contains e.born).map some).size)).run P w = .ok q w1 := by
      have hpos : 0 < (entries.filter fun e => !seen.contains e.born).size := by
        rcases Nat.eq_zero_or_pos (entries.filter fun e => !seen.contains e.born).size with h | h
        · have := Array.eq_empty_of_size_eq_zero h; rw [this] at hemp'; simp at hemp'
        · exact h
      simp only [run_choose, Array.size_map]
      by_cases hf : (Question.mapNext (entries.filter fun e => !seen.contains e.born).size).forced = true
      · exact ⟨0, w, hpos, .inl rfl, by rw [if_pos hf]⟩
      · exact ⟨_, w.drew, Nat.mod_lt _ hpos, .inr rfl, by rw [if_neg hf]; rfl⟩
    have hget : ((entries.filter fun e => !seen.contains e.born).map some)[q]? = some (some (entries.filter fun e => !seen.contains e.born)[q]) := by simp [hq]
    generalize hE : (entries.filter fun e => !seen.contains e.born)[q] = e at hget
    have hmemE : e ∈ (entries.filter fun e => !seen.contains e.born) := by rw [← hE]; exact Array.getElem_mem hq
    simp only [Array.mem_filter] at hmemE
    obtain ⟨hmemE1, hmemE2⟩ := hmemE
    obtain ⟨i3, x2, hi3, hx3, hx2, hk2, hv2, hiff2⟩ := hmemx e (by simpa using hmemE1)
    have hnd2 : x2.1 ∉ done := fun h => by have := hiff2.2 h; rw [this] at hmemE2; cases hmemE2
    have hgoal := hgo x2.1 x2.2 hx2 hnd2
    simp only [hemp', Bool.false_eq_true, if_false, Array.empty_append, Sem.run_bind]
    rw [hchoice]
    have hset : (setObj it (.mapIter (some b) clock (seen.push e.born) clock)).run P w1 = .ok () { w1 with heap := w1.heap.setIfInBounds it (.mapIter (some b) clock (seen.push e.born) clock) } := by
      have : w1.heap[it]? = some (.mapIter (some b) clock seen clock) := by rcases hw1 with rfl | rfl <;> exact hit
      simp [setObj, Sem.run, this]
    simp only [Result.andThen_ok, hget, Sem.run_bind, hset, Sem.run_pure, hk2, hv2]
    have hsat : Sat G { w1 with heap := w1.heap.setIfInBounds it (.mapIter (some b) clock (seen.push e.born) clock) } (Hf x2.1) := by
      have hw1' : Sat G w1 (pts it (.mapIter (some b) clock seen clock) :: pts b (.map entries clock) :: H.eraseIdx i) := by
        have h7 : Sat G w (pts it (.mapIter (some b) clock seen clock) :: pts b (.map entries clock) :: H.eraseIdx i) := by
          refine ⟨hT, hO, hU', hh, hsub, ?_⟩
          have h8 : star (star (pts b (.map entries clock)) (pts it (.mapIter (some b) clock seen clock))) (Sep (H.eraseIdx i)) hh := ⟨h1, h2, ⟨h3, h4, hb1, hit1, hdj2, hj2⟩, hB, hdj, hj⟩
          exact star_swap (star_assoc' h8)
        rcases hw1 with rfl | rfl
        · exact h7
        · exact h7.draw _
      have h9 := hw1'.set0 (o' := .mapIter (some b) clock (seen.push e.born) clock)
      have h10 := putP_eq i _ _ H [] (Hf x2.1) (hp _) hi
      refine (h9.ent ?_).ent (Ent.perm (by simpa using h10.symm))
      refine (Ent.perm (List.Perm.swap _ _ _)).trans ?_
      refine Ent.fold (B := [_, _]) fun h hs => ⟨h, sub.refl h, entries, clock, seen.push e.born, ⟨entries, clock, rfl, hes, hnd, hborn, hbn⟩, ?_, ?_, ?_⟩
      · intro i2 e2 y2 he2 hy2
        have hold2 := hseen i2 e2 y2 he2 hy2
        simp only [Array.contains_eq_mem, Array.mem_push, decide_eq_true_eq, List.mem_cons] at hold2 ⊢
        constructor
        · rintro (h | h)
          · exact .inr (hold2.1 h)
          · left
            -- the borns are one, so the entries are
            have h11 : (entries.toList.map (·.born))[i2]? = (entries.toList.map (·.born))[i3]? := by simp only [List.getElem?_map, he2, hi3, Option.map_some, h]
            have h12 : i2 = i3 := (List.getElem?_inj (by
              have : i2 < entries.toList.length := by
                rcases Nat.lt_or_ge i2 entries.toList.length with h | h
                · exact h
                · rw [List.getElem?_eq_none h] at he2; cases he2
              rw [List.length_map]; exact this) hbn).1 h11
            subst h12
            rw [hx3] at hy2; cases hy2; rfl
        · rintro (h | h)
          · right
            have h11 : (es.map (·.1))[i2]? = (es.map (·.1))[i3]? := by simp only [List.getElem?_map, hy2, hx3, Option.map_some, h]
            have h12 : i2 = i3 := (List.getElem?_inj (by
              have : i2 < es.length := by
                rcases Nat.lt_or_ge i2 es.length with h | h
                · exact h
                · rw [List.getElem?_eq_none h] at hy2; cases hy2
              rw [List.length_map]; exact this) hnd).1 h11
            subst h12
            rw [hi3] at he2; cases he2; rfl
          · exact .inl (hold2.2 h)
      · intro key hkey
        simp only [List.head?_cons, Option.some.injEq] at hkey
        subst hkey
        exact ⟨e, by simpa using hmemE1, hk2, by simp⟩
      · exact star_mono (fun _ h => h) (fun _ h => Sep_one h) hs
    exact ⟨hS _ _ hsat, hgoal _ _ (ha.put hd _) hsat (hS _ _ hsat)⟩
end
end Go.SL

/- Engine, part G: functions without a Go body, interfaces, addresses compared, clear. Nothing here names a program. -/
set_option linter.unusedSimpArgs false
set_option linter.unusedVariables false
set_option linter.unusedSectionVars false
namespace Go.SL
section
variable {P : Program} {U : Tr} [hU : TabOk P U] {f : FuncId} {n : Nat} {R : Ending → World → Prop} {G : Glob} {k : List Item} {L : Lst} {H H' : List HP} {S : World → Prop} {all : Array Oper} {rest : Pl}
  {ty : TypeId} {pos : String} {af : Array Edge} {gd : Option (Nat × Bool)} {m : Bool} {d : Tmp}

theorem run_extern {g : FuncId} {fn : Func} {e : Array Value → Sem Value} {vs : Array Value} {w : World} (hf : P.funcs[g]? = some fn) (hb : fn.body = none) (hn : (fn.name == "runtime.NumGoroutine") = false) (hnx : (Extern.findNext fn).isNone = true) (he : Extern.find fn = some e) :
    (callFunc g vs).run P w = ((e vs).run P w).andThen fun v w' => .ok (.value v) w' := by
  have hnx' : Extern.findNext fn = none := Option.isNone_iff_eq_none.1 hnx
  simp only [callFunc, Sem.run_bind, run_program, Result.andThen_ok, hf, hn, hb, Option.isNone_none, Bool.false_eq_true, if_false, if_true, run_mark, hnx', he, Sem.run_pure]

/-- maps.clone. -/
theorem J_mapsClone {κ : Type} [DecidableEq κ] {kv : κ → Value} {g : FuncId} {fn : Func} {args : Array Operand} {tys : Array TypeId} {t : TypeId} {b : Nat} {es : List (κ × Value)} (i : Nat) (hd : Nat.blt d n = true)
    (hf : P.funcs[g]? = some fn) (hb : fn.body = none) (hn : (fn.name == "runtime.NumGoroutine") = false) (hnx : (Extern.findNext fn).isNone = true) (he : Extern.find fn = some Extern.MapsClone.clone)
    (hargs : evs L args.toList [] = .mk [.iface t (.map (some b))]) (hi : getL H i = some (mapR kv b es))
    (hS : ∀ b' w, Sat G w (mapR kv b' es :: H) → Sx rest S w)
    (h : ∀ b', J P f n R G S all rest k ((d, .iface t (.map (some b'))) :: L) (mapR kv b' es :: H)) :
    J P f n R G S all (.cons false true ⟨some d, .call { callee := .value (.func g), args := args, argTypes := tys }, ty, pos, af, gd⟩ rest) k L H := by
  refine J_act hd (fun u H1 => ∃ b', u = .iface t (.map (some b')) ∧ H1 = mapR kv b' es :: H) (fun a w ha hw => ?_) ?_ ?_
  · obtain ⟨o, hm, hb'⟩ := hw.getMap hi
    have hm0 := hm
    obtain ⟨entries, clock, rfl, hes, hnd, hborn, hbn⟩ := hm
    refine ⟨_, { w with heap := w.heap.push (.map entries clock) }, _, ?_, ⟨w.heap.size, rfl, rfl⟩, ?_⟩
    · simp only [execOp, resolve, Sem.run_bind, Act.eval, Deferred.ofValue, Sem.run_pure, Result.andThen_ok, invoke]
      rw [show (args.map fun x => a.eval x) = args.map a.eval from rfl] at *
      have hav := evs_arr ha _ _ hargs
      rw [show Array.map a.eval args = #[.iface t (.map (some b))] from hav]
      simp only [Array.empty_append, Array.append_empty]
      rw [run_extern hf hb hn hnx he]
      have hcl : Extern.MapsClone.clone #[.iface t (.map (some b))] = (getObj b >>= fun o => match o with
          | .map entries clock => newObj (.map entries clock) >>= fun r => pure (.iface t (.map (some r)))
          | _ => stuck "maps.clone: a map expected") := rfl
      rw [hcl]
      simp only [Sem.run_bind, run_getObj_map hb', Result.andThen_ok, run_newObj, Sem.run_pure]
    · have h3 := hw.alloc (.map entries clock)
      exact h3.ent (Ent.fold (B := [_]) fun h hs => ⟨h, sub.refl h, _, hm0, Sep_one hs⟩)
  · rintro u H1 w ⟨b', rfl, rfl⟩ hw; exact hS b' w hw
  · rintro u H1 ⟨b', rfl, rfl⟩; exact h b'

theorem J_assert {x : Operand} {xt t : TypeId} {ty' : Ty} {v : Value} (hd : Nat.blt d n = true) (hx : ev L x = some (.iface t v)) (ht : U.get t = some ty') (hni : (match ty'.und with | .interface _ => false | _ => true) = true)
    (h : J P f n R G S all rest k ((d, v) :: L) H) : J P f n R G S all (.cons m true ⟨some d, .typeAssert x xt t false, ty, pos, af, gd⟩ rest) k L H :=
  J_pure hd (fun a ha w => by
    simp only [execOp, ha.ev hx, Instr.typeAssert, Sem.run_bind, run_underlying ht, Result.andThen_ok]
    cases hu : ty'.und <;> simp_all) h
theorem J_mkIface {x : Operand} {t : TypeId} {ty' : Ty} {v : Value} (hd : Nat.blt d n = true) (hx : ev L x = some v) (ht : U.get t = some ty') (hni : (match ty'.und with | .interface _ => false | _ => true) = true)
    (h : J P f n R G S all rest k ((d, .iface t v) :: L) H) : J P f n R G S all (.cons m true ⟨some d, .makeInterface t x, ty, pos, af, gd⟩ rest) k L H :=
  J_pure hd (fun a ha w => by
    simp only [execOp, ha.ev hx, Instr.makeInterface, Sem.run_bind, run_underlying ht, Result.andThen_ok]
    cases hu : ty'.und <;> simp_all) h

/-! ## addresses compared -/
/-- A row of plain cells stands at the block. -/
def Row (w : World) (b : Nat) : Prop := ∃ l e, w.heap[b]? = some (cl l e)
theorem run_samePtr {b1 o1 b2 o2 : Nat} {w : World} (h1 : Row w b1) (h2 : Row w b2) : (sameAddr ⟨b1, o1, none⟩ ⟨b2, o2, none⟩).run P w = .ok (decide (b1 = b2 ∧ o1 = o2)) w := by
  obtain ⟨l1, e1, hb1⟩ := h1
  obtain ⟨l2, e2, hb2⟩ := h2
  unfold sameAddr
  by_cases hb : b1 = b2
  · subst hb
    simp only [beq_self_eq_true, if_true, Sem.run_pure, true_and]
    congr 1
    rw [Bool.eq_iff_iff]; simp
  · have hne : (b1 == b2) = false := by simpa using hb
    have f1 : ∀ o, w.frozen? ⟨b1, o, none⟩ = false := fun o => frozen_of_block hb1
    have f2 : ∀ o, w.frozen? ⟨b2, o, none⟩ = false := fun o => frozen_of_block hb2
    have s1 : w.shape? b1 = some (e1, l1.length) := by simp [World.shape?, hb1, cl]
    have s2 : w.shape? b2 = some (e2, l2.length) := by simp [World.shape?, hb2, cl]
    simp [hne, f1, f2, noView, viewAt, s1, s2, mayBeOne, stringish, hb]
theorem J_eqPtr {x y : Operand} {t yt el : TypeId} {ty' te : Ty} {b1 o1 b2 o2 : Nat} (hd : Nat.blt d n = true)
    (hx : ev L x = some (.pointer (some ⟨b1, o1, none⟩))) (hy : ev L y = some (.pointer (some ⟨b2, o2, none⟩))) (ht : U.get t = some ty') (hu : ty'.und = .pointer el) (he : U.get el = some te) (hsz : Nat.beq te.info.size 0 = false)
    (h1 : ∀ w, Sat G w H → Row w b1) (h2 : ∀ w, Sat G w H → Row w b2)
    (h : J P f n R G S all rest k ((d, .bool (decide (b1 = b2 ∧ o1 = o2))) :: L) H) : J P f n R G S all (.cons false true ⟨some d, .binOp .eql t x y yt, ty, pos, af, gd⟩ rest) k L H :=
  J_read hd (fun a w ha hw => by
    have hr := run_samePtr (P := P) (o1 := o1) (o2 := o2) (h1 w hw) (h2 w hw)
    have hne : te.info.size ≠ 0 := Nat.ne_of_beq_eq_false hsz
    have heq : (Op.equal t (.pointer (some ⟨b1, o1, none⟩)) (.pointer (some ⟨b2, o2, none⟩))).run P w = .ok (decide (b1 = b2 ∧ o1 = o2)) w := by
      unfold Op.equal Op.maxDepth Op.equalIn
      simp only [Sem.run_bind, run_underlying ht, Result.andThen_ok, hu, run_sizeOf he, ne_eq, hne, not_false_eq_true, if_true, hr]
    have hg : (eqGuard .eql t x y (.pointer (some ⟨b1, o1, none⟩)) (.pointer (some ⟨b2, o2, none⟩))).run P w = .ok () w := by simp [eqGuard]
    have hb : (binOp .eql t (.pointer (some ⟨b1, o1, none⟩)) (.pointer (some ⟨b2, o2, none⟩))).run P w = .ok (.bool (decide (b1 = b2 ∧ o1 = o2))) w := by
      simp only [binOp, Sem.run_bind, heq, Result.andThen_ok, Sem.run_pure]
    simp only [execOp, ha.ev hx, ha.ev hy, Sem.run_bind, hg, hb, Result.andThen_ok, Sem.run_pure]) h

/-! ## clear -/
theorem J_clear {x : Operand} {t elem : TypeId} {ty' te : Ty} {z : Value} {b o nn cap : Nat} {l l' : List Value} {e : TypeId} (i : Nat)
    (hS : ∀ w, Sat G w H' → Sx rest S w)
    (hx : ev L x = some (.slice (some ⟨b, o, none⟩) nn cap)) (ht : U.get t = some ty') (hu : ty'.und = .slice elem) (he : U.get elem = some te) (hz : te.info.zero = some z) (hzs : Nat.beq (cellsL z).length te.info.size = true) (hone : allOne (cellsL z) = true)
    (hi : getL H i = some (pts b (cl l e))) (hfit : o + nn * te.info.size ≤ l.length) (hl' : l' = l.take o ++ (List.replicate nn (cellsL z)).flatten ++ l.drop (o + nn * te.info.size)) (hp : putP i (pts b (cl l' e)) H [] = .mk H')
    (h : J P f n R G S all rest k L H') : J P f n R G S all (.cons false true ⟨none, .call { callee := .builtin .clear, args := #[x], argTypes := #[t] }, ty, pos, af, gd⟩ rest) k L H := by
  intro a w ha hw _
  have hzs' : (cellsL z).length = te.info.size := Nat.eq_of_beq_eq_true hzs
  have hcells : (Builtin.zeroCells z.cells nn).toList = (List.replicate nn (cellsL z)).flatten := by
    have hcs : z.cells.size = (cellsL z).length := by rw [cellsL_eq]; simp
    unfold Builtin.zeroCells
    simp only [Array.toList_map, Array.toList_range, hcs]
    rw [cellsL_eq]
    induction nn with
    | zero => simp
    | succ nn ih =>
      clear ih
      rw [List.replicate_succ', List.flatten_append]
      have hgen : ∀ q, List.map (fun i => (cellsL z).toArray[i % (cellsL z).length]!) (List.range (q * (cellsL z).length)) = (List.replicate q (cellsL z)).flatten := by
        intro q
        induction q with
        | zero => simp
        | succ q ih =>
          rw [List.replicate_succ', List.flatten_append, ← ih, Nat.succ_mul, List.range_add, List.map_append]
          congr 1
          simp only [List.map_map, List.flatten_cons, List.flatten_nil, List.append_nil]
          apply List.ext_getElem?
          intro j
          by_cases hj : j < (cellsL z).length
          · simp only [List.getElem?_map, List.getElem?_range hj, Option.map_some, Function.comp]
            rw [Nat.mul_comm, Nat.mul_add_mod, Nat.mod_eq_of_lt hj]
            simp [hj]
          · rw [List.getElem?_eq_none (by simp; omega), List.getElem?_eq_none (by omega)]
      have := hgen (nn + 1)
      rw [List.replicate_succ', List.flatten_append] at this
      exact this
  have hlen : ((List.replicate nn (cellsL z)).flatten).length = nn * te.info.size := by simp [hzs']
  have hst := run_storeCells (P := P) ((List.replicate nn (cellsL z)).flatten) 0 o l w (hw.getP hi) (by rw [hlen]; simpa using hfit) (fun u hu => by
    simp only [List.mem_flatten, List.mem_replicate] at hu
    obtain ⟨l2, ⟨_, rfl⟩, hu⟩ := hu
    exact allOne_spec hone u hu)
  simp only [Nat.add_zero, hlen, ← hl'] at hst
  have hs := hw.put hi hp
  refine .inl ⟨.inl rfl, .inr ⟨rfl, ?_⟩⟩
  by_cases h0 : nn = 0
  · subst h0
    have hll : l' = l := by rw [hl']; simp
    subst hll
    have hss : Sat G w H' := by
      have hb := hw.getP hi
      have hlt : b < w.heap.size := by
        rcases Nat.lt_or_ge b w.heap.size with h' | h'
        · exact h'
        · rw [Array.getElem?_eq_none h'] at hb; cases hb
      have hb' : w.heap[b] = cl l' e := by rw [Array.getElem?_eq_getElem hlt] at hb; exact Option.some.inj hb
      have : w.heap.setIfInBounds b (cl l' e) = w.heap := by rw [← hb']; simp [Array.setIfInBounds, hlt]
      rw [this] at hs; exact hs
    have : (execOp a.eval ⟨none, .call { callee := .builtin .clear, args := #[x], argTypes := #[t] }, ty, pos, af, gd⟩).run P w = .ok (.value (.tuple #[])) w := by
      simp [execOp, resolve, invoke, builtin, ha.ev hx, Builtin.clear_, run_underlying ht, hu]
    exact wpIn_value this ⟨hS _ hss, h a _ ha hss (hS _ hss)⟩
  · have : (execOp a.eval ⟨none, .call { callee := .builtin .clear, args := #[x], argTypes := #[t] }, ty, pos, af, gd⟩).run P w = .ok (.value (.tuple #[])) { w with heap := w.heap.setIfInBounds b (cl l' e) } := by
      obtain ⟨q, rfl⟩ : ∃ q, nn = q + 1 := ⟨nn - 1, by omega⟩
      simp only [execOp, resolve, invoke, builtin, Sem.run_bind, Sem.run_pure, Result.andThen_ok, List.map_toArray, List.map_cons, List.map_nil, ha.ev hx, Builtin.clear_, List.getElem?_toArray, List.getElem?_cons_zero, run_underlying ht, hu, run_zeroValue he hz, hcells, hst]
    exact wpIn_value this ⟨hS _ hs, h a _ ha hs (hS _ hs)⟩
theorem J_clearNil {x : Operand} {t : TypeId} {ty' : Ty} {a0 : Option Addr} {cap : Nat} 
    (hx : ev L x = some (.slice a0 0 cap)) (ht : U.get t = some ty')
    (h : J P f n R G S all rest k L H) : J P f n R G S all (.cons false true ⟨none, .call { callee := .builtin .clear, args := #[x], argTypes := #[t] }, ty, pos, af, gd⟩ rest) k L H := by
  intro a w ha hw hS
  refine .inl ⟨.inl rfl, .inr ⟨rfl, ?_⟩⟩
  have : (execOp a.eval ⟨none, .call { callee := .builtin .clear, args := #[x], argTypes := #[t] }, ty, pos, af, gd⟩).run P w = .ok (.value (.tuple #[])) w := by
    simp only [execOp, resolve, invoke, builtin, Sem.run_bind, Sem.run_pure, Result.andThen_ok, List.map_toArray, List.map_cons, List.map_nil, ha.ev hx, Builtin.clear_, List.getElem?_toArray, List.getElem?_cons_zero, run_underlying ht]
    cases a0 <;> simp
  exact wpIn_value this ⟨(Sx.of hS), h a w ha hw (Sx.of hS)⟩
end
end Go.SL

/- Engine, part H: small things for walks over slices and bytes. Nothing here names a program. -/
set_option linter.unusedVariables false
namespace Go.SL

/-- The place of the first that is so, or -1. -/
def idxI {α : Type} (p : α → Bool) : List α → Int
  | [] => -1
  | x :: l => if p x then 0 else (if idxI p l < 0 then -1 else idxI p l + 1)
theorem idxI_ge {α : Type} (p : α → Bool) (l : List α) : -1 ≤ idxI p l := by
  induction l with
  | nil => simp [idxI]
  | cons x l ih => simp only [idxI]; split; omega; split <;> omega
theorem idxI_lt {α : Type} (p : α → Bool) (l : List α) : idxI p l < l.length := by
  induction l with
  | nil => simp [idxI]
  | cons x l ih => simp only [idxI, List.length_cons]; split; omega; split <;> omega
theorem idxI_none {α : Type} {p : α → Bool} {l : List α} (h : ∀ x ∈ l, p x = false) : idxI p l = -1 := by
  induction l with
  | nil => rfl
  | cons x l ih => simp [idxI, h x (by simp), ih (fun y hy => h y (by simp [hy]))]
theorem idxI_some {α : Type} {p : α → Bool} {l : List α} {i : Nat} {x : α} (hi : l[i]? = some x) (hx : p x = true) (hb : ∀ y ∈ l.take i, p y = false) : idxI p l = i := by
  induction l generalizing i with
  | nil => simp at hi
  | cons y l ih =>
    cases i with
    | zero => simp at hi; subst hi; simp [idxI, hx]
    | succ i =>
      simp at hi hb
      have := ih hi hb.2
      simp only [idxI, hb.1, Bool.false_eq_true, if_false, this]
      split <;> omega
theorem idxI_neg {α : Type} {p : α → Bool} {l : List α} : idxI p l < 0 ↔ l.any p = false := by
  induction l with
  | nil => simp [idxI]
  | cons x l ih =>
    have := idxI_ge p l
    simp only [idxI, List.any_cons, Bool.or_eq_false_iff]
    cases hx : p x with
    | true => simp
    | false =>
      simp only [Bool.false_eq_true, if_false, true_and]
      rw [← ih]
      split <;> omega

/-- A cell of a view. -/
theorem Vw.cell {A : HP} {b o n cap : Nat} {cs : List Value} (h : Vw A (.slice (some ⟨b, o, none⟩) n cap) n cs) {i : Nat} {c : Value} (hi : cs[i]? = some c) : ∀ h, A h → hcell h b (o + i) = some c := by
  obtain ⟨a, cap', hv, h0 | ⟨b', o', ha, hc⟩⟩ := h
  · subst h0; simp at hi
  · simp only [Value.slice.injEq] at hv
    obtain ⟨rfl, _, rfl⟩ := hv
    simp only [Option.some.injEq, Addr.mk.injEq, and_true] at ha
    obtain ⟨rfl, rfl⟩ := ha
    exact fun h hA => hc h hA i c hi
theorem Vw.shape {A : HP} {v : Value} {n : Nat} {cs : List Value} (h : Vw A v n cs) : ∃ a cap, v = .slice a n cap := by
  obtain ⟨a, cap, hv, _⟩ := h; exact ⟨a, cap, hv⟩
/-- A view that is not empty lies somewhere. -/
theorem Vw.some {A : HP} {v : Value} {n : Nat} {cs : List Value} (h : Vw A v n cs) (h0 : cs ≠ []) : ∃ b o cap, v = .slice (some ⟨b, o, none⟩) n cap := by
  obtain ⟨a, cap, hv, h1 | ⟨b, o, ha, hc⟩⟩ := h
  · exact absurd h1 h0
  · exact ⟨b, o, cap, by rw [hv, ha]⟩
theorem bV_get {bs : List UInt8} {i : Nat} {x : UInt8} (h : bs[i]? = some x) : (bV bs)[i]? = some (u8 x) := by simp [bV, h]
theorem Ent.addEmp (H : List HP) : Ent H (emp :: H) := fun h hs => ⟨h, sub.refl h, star_comm (star_emp hs)⟩
/-- Two assertions as one. -/
theorem Ent.join (A B : HP) (H : List HP) : Ent (A :: B :: H) (star A B :: H) := fun h hs => ⟨h, sub.refl h, star_assoc hs⟩
theorem Ent.part (A B : HP) (H : List HP) : Ent (star A B :: H) (A :: B :: H) := fun h hs => ⟨h, sub.refl h, star_assoc' hs⟩
theorem Vw.left {A B : HP} {v : Value} {n : Nat} {cs : List Value} (h : Vw A v n cs) : Vw (star A B) v n cs := h.mono fun _ hs => star_left hs
theorem Vw.right {A B : HP} {v : Value} {n : Nat} {cs : List Value} (h : Vw B v n cs) : Vw (star A B) v n cs := h.mono fun _ hs => star_right hs
theorem u8_lt (x : UInt8) : ((x.toNat : Nat) : Int) < 256 := by have := x.toNat_lt; omega
theorem u8_inj {x y : UInt8} (h : (x.toNat : Int) = y.toNat) : x = y := UInt8.toNat_inj.1 (by omega)
/-- Two lists, place by place. -/
def All2 {α β : Type} (q : α → β → Prop) (l : List α) (r : List β) : Prop := l.length = r.length ∧ ∀ (i : Nat) (x : α) (y : β), l[i]? = Option.some x → r[i]? = Option.some y → q x y
theorem All2.nil {α β : Type} {q : α → β → Prop} : All2 q [] [] := ⟨rfl, fun i x y h => by simp at h⟩
theorem All2.snoc {α β : Type} {q : α → β → Prop} {l : List α} {r : List β} {x : α} {y : β} (h : All2 q l r) (hq : q x y) : All2 q (l ++ [x]) (r ++ [y]) := by
  obtain ⟨hl, ha⟩ := h
  refine ⟨by simp [hl], fun i u v hu hv => ?_⟩
  rcases Nat.lt_or_ge i l.length with h | h
  · rw [List.getElem?_append_left h] at hu
    rw [List.getElem?_append_left (by omega)] at hv
    exact ha i u v hu hv
  · rw [List.getElem?_append_right h] at hu
    rw [List.getElem?_append_right (by omega)] at hv
    have h0 : i - l.length = 0 := by
      rcases Nat.eq_zero_or_pos (i - l.length) with h | h
      · exact h
      · rw [List.getElem?_eq_none (by simp; omega)] at hu; cases hu
    rw [h0] at hu; rw [← hl, h0] at hv
    simp at hu hv; subst hu; subst hv; exact hq
theorem All2.cons {α β : Type} {q : α → β → Prop} {l : List α} {r : List β} {x : α} {y : β} (h : All2 q l r) (hq : q x y) : All2 q (x :: l) (y :: r) := by
  obtain ⟨hl, ha⟩ := h
  refine ⟨by simp [hl], fun i u v hu hv => ?_⟩
  cases i with
  | zero => simp at hu hv; subst hu; subst hv; exact hq
  | succ i => exact ha i u v (by simpa using hu) (by simpa using hv)
theorem All2.one {α β : Type} {q : α → β → Prop} {x : α} {y : β} (hq : q x y) : All2 q [x] [y] := All2.nil.cons hq
theorem All2.mono {α β : Type} {q q' : α → β → Prop} {l : List α} {r : List β} (h : All2 q l r) (hm : ∀ x y, q x y → q' x y) : All2 q' l r := ⟨h.1, fun i x y hx hy => hm x y (h.2 i x y hx hy)⟩
theorem All2.left {α β : Type} {q : α → β → Prop} {l : List α} {r : List β} (h : All2 q l r) {i : Nat} {x : α} (hi : l[i]? = Option.some x) : ∃ y, r[i]? = Option.some y ∧ q x y := by
  have hlt : i < l.length := by
    rcases Nat.lt_or_ge i l.length with h | h
    · exact h
    · rw [List.getElem?_eq_none h] at hi; cases hi
  have : i < r.length := by have := h.1; omega
  exact ⟨r[i], by simp [this], h.2 i x _ hi (by simp [this])⟩
theorem All2.right {α β : Type} {q : α → β → Prop} {l : List α} {r : List β} (h : All2 q l r) {i : Nat} {y : β} (hi : r[i]? = Option.some y) : ∃ x, l[i]? = Option.some x ∧ q x y := by
  have hlt : i < r.length := by
    rcases Nat.lt_or_ge i r.length with h | h
    · exact h
    · rw [List.getElem?_eq_none h] at hi; cases hi
  have : i < l.length := by have := h.1; omega
  exact ⟨l[i], by simp [this], h.2 i _ y (by simp [this]) hi⟩
theorem All2.set {α β : Type} {q : α → β → Prop} {l : List α} {r : List β} (h : All2 q l r) (i : Nat) {x : α} {y : β} (hq : q x y) : All2 q (l.set i x) (r.set i y) := by
  refine ⟨by simp [h.1], fun j u v hu hv => ?_⟩
  rw [List.getElem?_set] at hu hv
  by_cases hij : i = j
  · rw [if_pos hij] at hu hv
    split at hu
    · split at hv
      · cases hu; cases hv; exact hq
      · cases hv
    · cases hu
  · rw [if_neg hij] at hu hv; exact h.2 j u v hu hv
theorem Ent.to {H pre rest F T : List HP} (is : List Nat) (m : Nat) (h : pickE is [] H [] = .mk pre rest) (hd : rest.drop m = F) (ht : pre ++ F = T) : Ent H T := ht ▸ Ent.fin is m h hd
theorem slc_lift (e : TypeId) (size : Nat) (a : Option Addr) (H : List HP) : Ent H (slc e size (.slice a 0 0) 0 [] :: H) := fun h hs => ⟨h, sub.refl h, star_mono (slc_nil e size a) (fun _ h => h) (star_comm (star_emp hs))⟩
/-- A whole new row as a slice's own. -/
theorem slc_row (e : TypeId) (size b : Nat) (n cap : Nat) (cs junk : List Value) (H : List HP) (hl : cs.length = n * size) (hn : n ≤ cap) (hc : cap * size ≤ cs.length + junk.length) :
    Ent (pts b (cl (cs ++ junk) e) :: H) (slc e size (.slice (Option.some ⟨b, 0, none⟩) n cap) n cs :: H) :=
  Ent.fold (B := [_]) fun h hs => ⟨h, sub.refl h, hl, .inr ⟨b, 0, cap, [], junk, rfl, rfl, hn, hc, Sep_one hs⟩⟩
theorem allTake {α : Type} {q : α → Prop} {l : List α} {i : Nat} {x : α} (hb : ∀ y ∈ l.take i, q y) (hi : l[i]? = Option.some x) (hx : q x) : ∀ y ∈ l.take (i + 1), q y := by
  intro y hy
  have hlt : i < l.length := by
    rcases Nat.lt_or_ge i l.length with h | h
    · exact h
    · rw [List.getElem?_eq_none h] at hi; cases hi
  rw [List.take_succ_eq_append_getElem hlt] at hy
  rcases List.mem_append.1 hy with h | h
  · exact hb y h
  · simp at h
    have : l[i] = x := by simpa [hlt] using hi
    rw [h, this]; exact hx
theorem keep_nil {L : Lst} : ∀ t v, fget ([] : Lst) t = Option.some v → fget L t = Option.some v := fun _ _ h => by cases h
theorem keep_cons {L L' : Lst} {t0 : Nat} {v0 : Value} (h : fget L t0 = Option.some v0) (hr : ∀ t v, fget L' t = Option.some v → fget L t = Option.some v) : ∀ t v, fget ((t0, v0) :: L') t = Option.some v → fget L t = Option.some v := by
  intro t v e
  simp only [fget] at e
  cases hb : Nat.beq t0 t with
  | true => rw [← Nat.eq_of_beq_eq_true hb, h]; simpa [hb] using e
  | false => exact hr t v (by simpa [hb] using e)
/-- What stands as a slice of its own is a slice. -/
theorem J_shape {P : Program} {f : FuncId} {n : Nat} {R : Ending → World → Prop} {G : Glob} {k : List Item} {L : Lst} {H : List HP} {S : World → Prop} {all : Array Oper} {rest : Pl} {e : TypeId} {size nn : Nat} {v : Value} {cs : List Value}
    (i : Nat) (hi : getL H i = some (slc e size v nn cs)) (h : ∀ a c, v = .slice a nn c → J P f n R G S all rest k L H) : J P f n R G S all rest k L H :=
  J_sat fun w hw => by
    obtain ⟨h0, _, hA⟩ := hw.getA hi
    obtain ⟨_, ⟨a, rfl, rfl, _⟩ | ⟨b, o, cap, pre, junk, rfl, _⟩⟩ := hA
    · exact h _ _ rfl
    · exact h _ _ rfl
theorem K_shape {P : Program} {f : FuncId} {n : Nat} {R : Ending → World → Prop} {G : Glob} {k : List Item} {L : Lst} {H : List HP} {e : TypeId} {size nn : Nat} {v : Value} {cs : List Value}
    (i : Nat) (hi : getL H i = some (slc e size v nn cs)) (h : ∀ a c, v = .slice a nn c → K P f n R G k L H) : K P f n R G k L H :=
  K_sat fun ⟨w, hw⟩ => by
    obtain ⟨h0, _, hA⟩ := hw.getA hi
    obtain ⟨_, ⟨a, rfl, rfl, _⟩ | ⟨b, o, cap, pre, junk, rfl, _⟩⟩ := hA
    · exact h _ _ rfl
    · exact h _ _ rfl
/-- Bytes with others at a place. -/
def wroteL (old : List UInt8) (at_ : Nat) (b : List UInt8) : List UInt8 :=
  let o := old ++ List.replicate (at_ + b.length - old.length) 0
  o.take at_ ++ b ++ o.drop (at_ + b.length)
/-! ## a slice of its own: its cells -/
section
variable {P : Program} {U : Tr} [hU : TabOk P U] {f : FuncId} {n : Nat} {R : Ending → World → Prop} {G : Glob} {k : List Item} {L : Lst} {H H' : List HP} {S : World → Prop} {all : Array Oper} {rest : Pl}
  {ty : TypeId} {pos : String} {af : Array Edge} {gd : Option (Nat × Bool)} {m : Bool} {d : Tmp}
theorem J_slcAt {e : TypeId} {sz nn : Nat} {v : Value} {cs : List Value} (i : Nat) (hi : getL H i = some (slc e sz v nn cs)) (h0 : 0 < nn)
    (h : ∀ b o c, v = .slice (some ⟨b, o, none⟩) nn c → Vw (slc e sz v nn cs) v nn cs → J P f n R G S all rest k L H) : J P f n R G S all rest k L H :=
  J_sat fun w hw => by
    obtain ⟨h1, _, hA⟩ := hw.getA hi
    have hv := Vw.of_slc e sz v nn cs ⟨h1, hA⟩
    obtain ⟨_, ⟨a, rfl, rfl, _⟩ | ⟨b, o, cap, pre, junk, rfl, _⟩⟩ := hA
    · omega
    · exact h _ _ _ rfl hv
theorem J_slcVw {e : TypeId} {sz nn : Nat} {v : Value} {cs : List Value} (i : Nat) (hi : getL H i = some (slc e sz v nn cs))
    (h : Vw (slc e sz v nn cs) v nn cs → J P f n R G S all rest k L H) : J P f n R G S all rest k L H :=
  J_sat fun w hw => by
    obtain ⟨h1, _, hA⟩ := hw.getA hi
    exact h (Vw.of_slc e sz v nn cs ⟨h1, hA⟩)
/-- A load of a cell of a slice's view, told by its number. -/
theorem J_loadAt {t : TypeId} {x : Operand} {b o off nn cap : Nat} {ty' : Ty} {c : Value} {A : HP} {cs : List Value} (i idx : Nat) (hd : Nat.blt d n = true) (hx : ev L x = some (.pointer (some ⟨b, off, none⟩)))
    (hi : getL H i = some A) (hv : Vw A (.slice (some ⟨b, o, none⟩) nn cap) nn cs) (hoff : off = o + idx) (hc : cs[idx]? = some c) (ht : U.get t = some ty') (hg : ty'.isAgg = false)
    (h : J P f n R G S all rest k ((d, c) :: L) H) : J P f n R G S all (.cons false true ⟨some d, .load t x, ty, pos, af, gd⟩ rest) k L H :=
  J_loadV (U := U) i hd (hoff ▸ hx) hi (hv.cell hc) ht hg h
theorem J_loadAtS {Hs : List HP} {t : TypeId} {x : Operand} {b o off nn cap : Nat} {ty' : Ty} {c : Value} {A : HP} {cs : List Value} (i idx : Nat) (hd : Nat.blt d n = true) (hx : ev L x = some (.pointer (some ⟨b, off, none⟩)))
    (hi : getL Hs i = some A) (hv : Vw A (.slice (some ⟨b, o, none⟩) nn cap) nn cs) (hoff : off = o + idx) (hc : cs[idx]? = some c) (ht : U.get t = some ty') (hg : ty'.isAgg = false)
    (h : J P f n R G (fun w => Sat G w Hs) all rest k ((d, c) :: L) H) : J P f n R G (fun w => Sat G w Hs) all (.cons true true ⟨some d, .load t x, ty, pos, af, gd⟩ rest) k L H :=
  J_loadS (U := U) hd (hoff ▸ hx) (fun w hw => by
    obtain ⟨h, hh, hA⟩ := hw.getA hi
    exact cell_of_hcell hh (hv.cell hc h hA)) ht hg h
theorem finV_mk : ∀ (acc l : List Value), finV acc l = .mk (acc.reverse ++ l)
  | [], l => rfl
  | a :: acc, l => by simp only [finV, finV_mk acc (a :: l)]; simp
theorem repl_go (u : Value) : ∀ (l acc : List Value) (off : Nat), off < l.length → repl acc off l [u] = .mk (acc.reverse ++ l.set off u) := by
  intro l
  induction l with
  | nil => intro acc off h; simp at h
  | cons y l ih =>
    intro acc off h
    cases off with
    | zero =>
      simp only [repl]
      cases l <;> simp [finV_mk]
    | succ off => simp only [repl]; rw [ih _ _ (by simpa using h)]; simp
theorem slc_open {e : TypeId} {b o c nn : Nat} {cs : List Value} : ∀ h, slc e 1 (.slice (some ⟨b, o, none⟩) nn c) nn cs h → 0 < nn → ∃ x : List Value × List Value, (x.1.length = o ∧ nn ≤ c ∧ c ≤ cs.length + x.2.length ∧ cs.length = nn) ∧ Sep [pts b (cl (x.1 ++ cs ++ x.2) e)] h := by
  rintro h ⟨hl, ⟨a, hv, rfl, _⟩ | ⟨b', o', cap, pre, junk, hv, hp, hn, hc, hpt⟩⟩ h0
  · omega
  · simp only [Value.slice.injEq, Option.some.injEq, Addr.mk.injEq, and_true, true_and] at hv
    obtain ⟨⟨rfl, rfl⟩, rfl⟩ := hv
    exact ⟨(pre, junk), ⟨hp, hn, by simpa using hc, by simpa using hl⟩, Sep_one' hpt⟩
theorem slc_close {e : TypeId} {b o c nn : Nat} {cs pre junk : List Value} (hp : pre.length = o) (hn : nn ≤ c) (hc : c ≤ cs.length + junk.length) (hl : cs.length = nn) (H : List HP) :
    Ent (pts b (cl (pre ++ cs ++ junk) e) :: H) (slc e 1 (.slice (some ⟨b, o, none⟩) nn c) nn cs :: H) :=
  Ent.fold (B := [_]) fun h hs => ⟨h, sub.refl h, by simpa using hl, .inr ⟨b, o, c, pre, junk, rfl, hp, hn, by simpa using hc, Sep_one hs⟩⟩
theorem J_storeSlc {t : TypeId} {x y : Operand} {b o q c nn : Nat} {ty' : Ty} {u : Value} {e : TypeId} {cs : List Value} (i : Nat) (hS : ∀ w, Sat G w H' → Sx rest S w)
    (hx : ev L x = some (.pointer (some ⟨b, o + q, none⟩))) (hy : ev L y = some u) (ht : U.get t = some ty') (hsz : Nat.beq ty'.info.size 1 = true) (hc : cellsL u = [u]) (hone : allOne [u] = true)
    (hi : getL H i = some (slc e 1 (.slice (some ⟨b, o, none⟩) nn c) nn cs)) (hq : q < nn) (hp : putP i (slc e 1 (.slice (some ⟨b, o, none⟩) nn c) nn (cs.set q u)) H [] = .mk H')
    (h : J P f n R G S all rest k L H') : J P f n R G S all (.cons false true ⟨none, .store t x y, ty, pos, af, gd⟩ rest) k L H := by
  refine J_ent (Ent.perm (perm_of_get (by rw [← getL_eq]; exact hi))) ?_
  refine J_open (B := fun x : List Value × List Value => [pts b (cl (x.1 ++ cs ++ x.2) e)]) (fun h hs => slc_open h hs (by omega)) ?_
  rintro ⟨pre, junk⟩ ⟨h1, h2, h3, h4⟩
  simp only at h1 h2 h3 h4
  have hset : (pre ++ cs ++ junk).set (o + q) u = pre ++ cs.set q u ++ junk := by
    rw [List.append_assoc, List.set_append_right _ _ (by omega), show o + q - pre.length = q by omega, List.set_append_left _ _ (by omega), List.append_assoc]
  have hE : Ent (pts b (cl (pre ++ cs.set q u ++ junk) e) :: H.eraseIdx i) H' := by
    have h5 := putP_eq i _ _ H [] H' hp hi
    exact (slc_close h1 h2 (by rw [List.length_set]; exact h3) (by rw [List.length_set]; exact h4) _).trans (Ent.perm (by simpa using h5.symm))
  refine J_store (U := U) (l' := pre ++ cs.set q u ++ junk) 0 (fun w hw => hS w (hw.ent hE)) hx hy ht (by rw [hc, Nat.eq_of_beq_eq_true hsz]; rfl) (by rw [hc]; rfl) (by rw [hc]; exact hone) rfl ?_ rfl (J_ent hE h)
  rw [hc, repl_go _ _ _ _ (by simp; omega), ← hset]
  rfl
/-- A byte's value. -/
theorem u8_of_int {z : Int} (h0 : 0 ≤ z) (h1 : z < 256) : ∃ y : UInt8, Value.int .u8 z = u8 y := ⟨UInt8.ofNat z.toNat, by
  simp only [u8, UInt8.toNat_ofNat']
  congr 1
  omega⟩
theorem wrap_u8 (x : Int) : ∃ y : UInt8, Value.int .u8 (IntKind.u8.wrap x) = u8 y := by
  have h : IntKind.u8.wrap x = x % 256 := by simp [IntKind.wrap, IntKind.bits, IntKind.signed]
  rw [h]
  exact u8_of_int (by omega) (by omega)
theorem bV_set (l : List UInt8) (i : Nat) (y : UInt8) : (bV l).set i (u8 y) = bV (l.set i y) := by simp [bV, List.map_set]
end
/-- A contract's promise, weakened. -/
theorem Ctr.post {P : Program} {f : FuncId} {args : List Value} {Pre : List HP} {Post Post' : Value → List HP → Prop} (c : Ctr P f args Pre Post) (h : ∀ v H, Post v H → Post' v H) : Ctr P f args Pre Post' :=
  ⟨c.1, fun G w F hw => (c.2 G w F hw).mono fun e w' h' => let ⟨v, H, he, hp, hs⟩ := h'; ⟨v, H, he, h v H hp, hs⟩⟩
/-- A contract where more stands than it asks. -/
theorem Ctr.pre {P : Program} {f : FuncId} {args : List Value} {Pre Pre' : List HP} {Post : Value → List HP → Prop} (c : Ctr P f args Pre Post) (h : Ent Pre' Pre) : Ctr P f args Pre' Post :=
  ⟨c.1, fun G w F hw => c.2 G w F (hw.ent (Ent.append F h))⟩
/-- A proposition that tactics do not look into. -/
structure Hold (A : Prop) : Prop where
  out : A
end Go.SL

/- A pointer to a variable. -/
namespace Go.Proofs.YtpdmbmnhgcnelaaGreat
open Go Go.SL
def ptr (f : Nat) : Value := .pointer (some ⟨f, 0, none⟩)
end Go.Proofs.YtpdmbmnhgcnelaaGreat

/- files: the disk as plain data, what each call makes of it, and how it lies in memory. No program is named here but by the numbers of types that the memory's rows bear (parameters). -/
set_option linter.unusedVariables false
namespace Go.SL
theorem Ent.unsep (l H : List HP) : Ent (Sep l :: H) (l ++ H) := fun h hs => ⟨h, sub.refl h, Sep_append' hs⟩
theorem Ent.resep (l H : List HP) : Ent (l ++ H) (Sep l :: H) := fun h hs => ⟨h, sub.refl h, Sep_append hs⟩

/-! ## rows of bytes that nobody writes any more -/
abbrev Arrs := List (Nat × List Value)
def arrS (e : TypeId) (M : Arrs) : HP := Sep (M.map fun x => pts x.1 (cl x.2 e))
/-- The slice v holds the bytes bs, in one of these rows. -/
def BIn (M : Arrs) (v : Value) (bs : List UInt8) : Prop :=
  ∃ a cap, v = .slice a bs.length cap ∧ bs.length ≤ cap ∧ (bs = [] ∨ ∃ b o cs, a = Option.some ⟨b, o, none⟩ ∧ (b, cs) ∈ M ∧ (cs.drop o).take bs.length = bV bs)
theorem BIn.mono {M M' : Arrs} {v : Value} {bs : List UInt8} (h : BIn M v bs) (hs : ∀ x ∈ M, x ∈ M') : BIn M' v bs := by
  obtain ⟨a, cap, hv, hc, h0 | ⟨b, o, cs, ha, hm, ht⟩⟩ := h
  · exact ⟨a, cap, hv, hc, .inl h0⟩
  · exact ⟨a, cap, hv, hc, .inr ⟨b, o, cs, ha, hs _ hm, ht⟩⟩
theorem BIn.nil (M : Arrs) (a : Option Addr) (cap : Nat) : BIn M (.slice a 0 cap) [] := ⟨a, cap, rfl, Nat.zero_le _, .inl rfl⟩
theorem Sep_mem {l : List HP} {A : HP} {h : Hp} (hA : A ∈ l) (hs : Sep l h) : ∃ h', sub h' h ∧ A h' := by
  obtain ⟨i, hi⟩ := List.getElem?_of_mem hA
  exact star_left (Sep_perm (perm_of_get hi) h hs)
theorem BIn.view {M : Arrs} {v : Value} {bs : List UInt8} (h : BIn M v bs) (e : TypeId) : Vw (arrS e M) v bs.length (bV bs) := by
  obtain ⟨a, cap, rfl, _, h0 | ⟨b, o, cs, ha, hm, ht⟩⟩ := h
  · subst h0; exact ⟨a, cap, rfl, .inl rfl⟩
  · have h1 : Vw (pts b (cl cs e)) (.slice a bs.length cap) bs.length (bV bs) := by
      rw [ha]; exact Vw.pts (by rw [bV_length]; exact ht)
    refine h1.mono fun h hs => ?_
    exact Sep_mem (List.mem_map.2 ⟨(b, cs), hm, rfl⟩) hs
theorem BIn.shape {M : Arrs} {v : Value} {bs : List UInt8} (h : BIn M v bs) : ∃ a cap, v = .slice a bs.length cap ∧ bs.length ≤ cap := by
  obtain ⟨a, cap, hv, hc, _⟩ := h; exact ⟨a, cap, hv, hc⟩
/-- A new row among them. -/
theorem arrS_add (e : TypeId) (b : Nat) (cs : List Value) (M : Arrs) (H : List HP) : Ent (pts b (cl cs e) :: arrS e M :: H) (arrS e ((b, cs) :: M) :: H) :=
  Ent.fold (B := [_, _]) fun h hs => ⟨h, sub.refl h, star_mono (fun _ h => h) (fun _ h => Sep_one h) hs⟩
theorem BIn.row {M : Arrs} {b cap : Nat} {bs : List UInt8} (hc : bs.length ≤ cap) : BIn ((b, bV bs) :: M) (.slice (Option.some ⟨b, 0, none⟩) bs.length cap) bs :=
  ⟨_, cap, rfl, hc, .inr ⟨b, 0, bV bs, rfl, by simp, by rw [← bV_length]; simp⟩⟩
/-- A slice of its own becomes one of these. -/
theorem arrS_slc (e : TypeId) (v : Value) (bs : List UInt8) (M : Arrs) : ∀ h, star (slc e 1 v bs.length (bV bs)) (arrS e M) h → ∃ M', BIn M' v bs ∧ (∀ x ∈ M, x ∈ M') ∧ arrS e M' h := by
  rintro h ⟨h1, h2, ⟨hl, ⟨a, rfl, hn, he⟩ | ⟨b, o, cap, pre, junk, rfl, hp, hn, hc, hpt⟩⟩, hM, hd, hj⟩
  · have hb : bs = [] := List.eq_nil_of_length_eq_zero hn
    subst hb
    exact ⟨M, BIn.nil M a 0, fun _ h => h, emp_star ⟨h1, h2, he, hM, hd, hj⟩⟩
  · refine ⟨(b, pre ++ bV bs ++ junk) :: M, ⟨_, cap, rfl, hn, .inr ⟨b, o, pre ++ bV bs ++ junk, rfl, by simp, ?_⟩⟩, fun x hx => by simp [hx], ⟨h1, h2, hpt, hM, hd, hj⟩⟩
    subst hp
    rw [List.append_assoc, List.drop_left, ← bV_length bs, List.take_left]
/-- A part of what a slice holds. -/
theorem BIn.tail {M : Arrs} {b o n cap : Nat} {x : UInt8} {bs : List UInt8} (h : BIn M (.slice (Option.some ⟨b, o, none⟩) n cap) (x :: bs)) (o' cap' : Nat) (h1 : bs ≠ [] → o' = o + 1) (hc' : bs.length ≤ cap') : BIn M (.slice (Option.some ⟨b, o', none⟩) bs.length cap') bs := by
  by_cases h0 : bs = []
  · subst h0; exact BIn.nil _ _ _
  · have := h1 h0
    subst this
    obtain ⟨a, cap2, hv, _, h2 | ⟨b', o2, cs, ha, hm, ht⟩⟩ := h
    · cases h2
    · simp only [Value.slice.injEq] at hv
      obtain ⟨rfl, _, rfl⟩ := hv
      simp only [Option.some.injEq, Addr.mk.injEq, and_true] at ha
      obtain ⟨rfl, rfl⟩ := ha
      refine ⟨_, cap', rfl, hc', .inr ⟨b, o + 1, cs, rfl, hm, ?_⟩⟩
      rw [List.length_cons] at ht
      rw [show o + 1 = 1 + o by omega, ← List.drop_drop]
      have h3 := congrArg (List.drop 1) ht
      rw [List.drop_take] at h3
      simpa [bV, Nat.add_comm] using h3

/-- A piece of what a slice holds. -/
theorem BIn.piece {M : Arrs} {b o n cap : Nat} {bs : List UInt8} (h : BIn M (.slice (Option.some ⟨b, o, none⟩) n cap) bs) (o' cap' p k : Nat) (hpk : p + k ≤ bs.length) (h1 : k ≠ 0 → o' = o + p) (hc' : k ≤ cap') : BIn M (.slice (Option.some ⟨b, o', none⟩) k cap') ((bs.drop p).take k) := by
  have hl : ((bs.drop p).take k).length = k := by rw [List.length_take, List.length_drop]; omega
  by_cases h0 : k = 0
  · subst h0; rw [List.take_zero]; exact BIn.nil _ _ _
  · have := h1 h0
    subst this
    obtain ⟨a, cap2, hv, _, h2 | ⟨b', o2, cs, ha, hm, ht⟩⟩ := h
    · subst h2; simp only [List.length_nil] at hpk; omega
    · simp only [Value.slice.injEq] at hv
      obtain ⟨rfl, _, rfl⟩ := hv
      simp only [Option.some.injEq, Addr.mk.injEq, and_true] at ha
      obtain ⟨rfl, rfl⟩ := ha
      refine ⟨_, cap', by rw [hl], by rw [hl]; exact hc', .inr ⟨b, o + p, cs, rfl, hm, ?_⟩⟩
      rw [hl, ← List.drop_drop]
      have h3 := congrArg (fun l => (l.drop p).take k) ht
      simp only [List.drop_take, List.take_take] at h3
      rw [show min k (bs.length - p) = k by omega] at h3
      rw [h3]
      simp only [bV, List.map_drop, List.map_take]
theorem BIn.cut {M : Arrs} {a : Option Addr} {n cap : Nat} {bs : List UInt8} (h : BIn M (.slice a n cap) bs) (p k : Nat) (hpk : p + k ≤ bs.length) : BIn M (.slice (sliceAt a cap p 1) k (cap - p)) ((bs.drop p).take k) := by
  obtain ⟨a', cap', hv, hc, h0⟩ := h
  simp only [Value.slice.injEq] at hv
  obtain ⟨rfl, hn, rfl⟩ := hv
  by_cases hk : k = 0
  · subst hk; rw [List.take_zero]; exact BIn.nil _ _ _
  · rcases h0 with h0 | ⟨b, o, cs, rfl, hm, ht⟩
    · subst h0; simp only [List.length_nil] at hpk; omega
    · have e : sliceAt (Option.some ⟨b, o, none⟩) cap p 1 = Option.some ⟨b, o + p, none⟩ := by
        unfold sliceAt
        rw [if_neg (by omega), Option.map_some, Addr.add_eq, Nat.mul_one]
      rw [e]
      exact BIn.piece (o := o) (n := bs.length) (cap := cap) ⟨_, _, rfl, hc, .inr ⟨b, o, cs, rfl, hm, ht⟩⟩ _ _ p k hpk (fun _ => rfl) (by omega)
/-! ## stores: many assertions of one make, as one -/
def stock {α : Type} (g : α → HP) (l : List α) : HP := Sep (l.map g)
theorem stock_out {α : Type} (g : α → HP) {l : List α} {i : Nat} {x : α} (hi : l[i]? = Option.some x) (H : List HP) : Ent (stock g l :: H) (g x :: stock g (l.eraseIdx i) :: H) := fun h hs => by
  refine ⟨h, sub.refl h, star_assoc' (star_mono (fun h hs => ?_) (fun _ h => h) hs)⟩
  have h1 : (l.map g)[i]? = Option.some (g x) := by simp [hi]
  have h2 := Sep_perm (perm_of_get h1) h hs
  rw [← map_eraseIdx'] at h2
  exact h2
theorem stock_in {α : Type} (g : α → HP) {l : List α} {i : Nat} {x : α} (hi : l[i]? = Option.some x) (H : List HP) : Ent (g x :: stock g (l.eraseIdx i) :: H) (stock g l :: H) := fun h hs => by
  refine ⟨h, sub.refl h, star_mono (fun h hs => ?_) (fun _ h => h) (star_assoc hs)⟩
  have h1 : (l.map g)[i]? = Option.some (g x) := by simp [hi]
  refine Sep_perm (perm_of_get h1).symm h ?_
  rw [← map_eraseIdx']
  exact hs
/-- Put back as another one, in the same place. -/
theorem stock_set {α : Type} (g : α → HP) {l : List α} {i : Nat} {x y : α} (hi : l[i]? = Option.some x) (H : List HP) : Ent (g y :: stock g (l.eraseIdx i) :: H) (stock g (l.set i y) :: H) := by
  have hlt : i < l.length := by
    rcases Nat.lt_or_ge i l.length with h | h
    · exact h
    · rw [List.getElem?_eq_none h] at hi; cases hi
  have h1 : (l.set i y)[i]? = Option.some y := by simp [hlt]
  have h2 := stock_in g h1 H
  have h3 : (l.set i y).eraseIdx i = l.eraseIdx i := by
    clear hi h1 h2
    induction l generalizing i with
    | nil => simp
    | cons z l ih => cases i with
      | zero => simp
      | succ i => simp at hlt ⊢; exact ih hlt
  rw [h3] at h2
  exact h2
theorem stock_add {α : Type} (g : α → HP) (x : α) (l : List α) (H : List HP) : Ent (g x :: stock g l :: H) (stock g (x :: l) :: H) := fun h hs => ⟨h, sub.refl h, star_assoc hs⟩
theorem stock_mem {α : Type} {g : α → HP} {l : List α} {x : α} (hx : x ∈ l) {h : Hp} (hs : stock g l h) : ∃ h', sub h' h ∧ g x h' := Sep_mem (List.mem_map.2 ⟨x, hx, rfl⟩) hs

theorem arrS_nil (e : TypeId) (H : List HP) : Ent H (arrS e [] :: H) := Ent.addEmp H
theorem stock_nil {α : Type} (g : α → HP) (H : List HP) : Ent H (stock g [] :: H) := Ent.addEmp H
/-! ## the disk as plain data -/
structure Ab where
  room : Nat
  fs : List (Nat × List UInt8 × List UInt8)
  names : List (ByteArray × Nat)
  states : List (List (ByteArray × Nat))
  writes : List (Nat × Nat × List UInt8)
  plan : List UInt8
  off : Bool
namespace Ab
def meet (A : Ab) (may : Bool) : Nat × Ab :=
  if may = false then (1, A) else if A.off = true then (7, A) else match A.plan with
  | [] => (0, A)
  | x :: p => if x = 1 then (6, { A with plan := p }) else if x = 2 then (7, { A with plan := p, off := true }) else (0, { A with plan := p })
def lookIn (l : List (ByteArray × Nat)) (name : ByteArray) : Option Nat := (l.find? fun x => decide (x.1 = name)).map (·.2)
def look (A : Ab) (name : ByteArray) : Option Nat := lookIn A.names name
def file (A : Ab) (f : Nat) : List UInt8 × List UInt8 := ((A.fs.find? fun x => decide (x.1 = f)).map (·.2)).getD ([], [])
def now (A : Ab) (f : Nat) : List UInt8 := (A.file f).1
def sure (A : Ab) (f : Nat) : List UInt8 := (A.file f).2
def find (A : Ab) (name : ByteArray) (may : Bool) : Nat × Option Nat × Ab :=
  if (A.meet may).1 = 0 then match (A.meet may).2.look name with
    | none => (4, none, (A.meet may).2)
    | some f => (0, some f, (A.meet may).2)
  else ((A.meet may).1, none, (A.meet may).2)
def used (A : Ab) : Nat := (A.names.map fun x => (A.now x.2).length).sum
def new (room : Nat) : Ab := ⟨room, [], [], [[]], [], [], false⟩
def setN (l : List (ByteArray × Nat)) (k : ByteArray) (f : Nat) : List (ByteArray × Nat) := if (lookIn l k).isSome then l.map (fun x => if x.1 = k then (k, f) else x) else l ++ [(k, f)]
def delN (l : List (ByteArray × Nat)) (k : ByteArray) : List (ByteArray × Nat) := l.filter fun x => !decide (x.1 = k)
/-- Names changed. -/
def chg (A : Ab) (nm : List (ByteArray × Nat)) : Ab := { A with names := nm, states := A.states ++ [nm] }
def create (A : Ab) (ok : Bool) (name : ByteArray) (f : Nat) : Nat × Ab :=
  if (A.meet ok).1 = 0 then
    if ((A.meet ok).2.look name).isSome then (5, (A.meet ok).2)
    else if 200 ≤ (A.meet ok).2.names.length then (3, (A.meet ok).2)
    else (0, { (A.meet ok).2.chg ((A.meet ok).2.names ++ [(name, f)]) with fs := (f, [], []) :: (A.meet ok).2.fs })
  else ((A.meet ok).1, (A.meet ok).2)
def remove (A : Ab) (ok : Bool) (name : ByteArray) : Nat × Ab := match A.find name ok with
  | (0, some _, A1) => (0, A1.chg (delN A1.names name))
  | (e, _, A1) => (e, A1)
def rename (A : Ab) (ok : Bool) (old name : ByteArray) : Nat × Ab := match A.find old ok with
  | (0, some f, A1) => (0, A1.chg (setN (delN A1.names old) name f))
  | (e, _, A1) => (e, A1)
def upd (fs : List (Nat × List UInt8 × List UInt8)) (f : Nat) (n : List UInt8) : List (Nat × List UInt8 × List UInt8) := fs.map fun x => if x.1 = f then (x.1, n, x.2.2) else x
def write (A : Ab) (ok : Bool) (name : ByteArray) (at_ : Nat) (b : List UInt8) : Nat × Ab :=
  if (A.find name ok).1 = 0 then match (A.find name ok).2.1 with
    | some f => if (A.find name ok).2.2.room < (A.find name ok).2.2.used + (at_ + b.length - ((A.find name ok).2.2.now f).length) then (3, (A.find name ok).2.2)
      else (0, { (A.find name ok).2.2 with fs := upd (A.find name ok).2.2.fs f (wroteL ((A.find name ok).2.2.now f) at_ b), writes := (A.find name ok).2.2.writes ++ [(f, at_, b)] })
    | none => (0, (A.find name ok).2.2)
  else ((A.find name ok).1, (A.find name ok).2.2)
def size (A : Ab) (name : ByteArray) : Nat × Nat := match A.look name with
  | none => (0, 4)
  | some f => ((A.now f).length, 0)
def read (A : Ab) (name : ByteArray) (at_ n : Int) : List UInt8 × Nat :=
  if A.off = true then ([], 7) else match A.look name with
    | none => ([], 4)
    | some f => if at_ < 0 ∨ n < 0 ∨ ((A.now f).length : Int) < at_ ∨ ((A.now f).length : Int) - at_ < n then ([], 1) else (((A.now f).drop at_.toNat).take n.toNat, 0)
def syncNames (A : Ab) : Nat × Ab := if (A.meet true).1 = 0 then (0, { (A.meet true).2 with states := [(A.meet true).2.names] }) else ((A.meet true).1, (A.meet true).2)
def updS (fs : List (Nat × List UInt8 × List UInt8)) (f : Nat) : List (Nat × List UInt8 × List UInt8) := fs.map fun x => if x.1 = f then (x.1, x.2.1, x.2.1) else x
def sync (A : Ab) (ok : Bool) (name : ByteArray) : Nat × Ab :=
  if (A.find name ok).1 = 0 then match (A.find name ok).2.1 with
    | some f => (0, { (A.find name ok).2.2 with fs := updS (A.find name ok).2.2.fs f, writes := (A.find name ok).2.2.writes.filter fun x => !decide (x.1 = f) })
    | none => (0, (A.find name ok).2.2)
  else ((A.find name ok).1, (A.find name ok).2.2)
/-- What is kept of one write: whole if it is told, or cut, or nothing. -/
def kept (stay : List UInt8) (torn cut : Int) (i : Nat) (b : List UInt8) : Option (List UInt8) :=
  if (i : Int) = torn then (let c := b.take (max 0 (min cut b.length)).toNat; if c = [] then none else some c)
  else if (i / 8 < stay.length ∧ ((stay.getD (i / 8) 0).toNat / 2 ^ (i % 8)) % 2 = 1) then some b else none
def updSure (fs : List (Nat × List UInt8 × List UInt8)) (f : Nat) (s : List UInt8) : List (Nat × List UInt8 × List UInt8) := fs.map fun x => if x.1 = f then (x.1, x.2.1, s) else x
/-- The writes that last, in their order, from number i on. -/
def lasts (stay : List UInt8) (torn cut : Int) : Nat → List (Nat × Nat × List UInt8) → List (Nat × List UInt8 × List UInt8) → List (Nat × List UInt8 × List UInt8)
  | _, [], fs => fs
  | i, w :: ws, fs => match kept stay torn cut i w.2.2 with
    | none => lasts stay torn cut (i + 1) ws fs
    | some c => lasts stay torn cut (i + 1) ws (updSure fs w.1 (wroteL (((fs.find? fun x => decide (x.1 = w.1)).map (·.2)).getD ([], [])).2 w.2.1 c))
def reach (sts : List (List (ByteArray × Nat))) : List Nat := sts.flatMap fun st => st.map (·.2)
def crash (A : Ab) (last : Int) (stay : List UInt8) (torn cut : Int) : Ab :=
  let nm := A.states.getD (max 0 (min last (A.states.length - 1))).toNat []
  let fs := lasts stay torn cut 0 A.writes A.fs
  { A with names := nm, states := [nm], writes := [], plan := [], off := false, fs := fs.map fun x => if x.1 ∈ reach (A.states ++ [nm]) then (x.1, x.2.2, x.2.2) else x }
end Ab
end Go.SL

