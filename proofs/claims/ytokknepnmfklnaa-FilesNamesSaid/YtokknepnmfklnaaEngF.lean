/- Engine, part F: maps. Nothing here names a program. -/
import Derived.Test.YtokknepnmfklnaaEngE
set_option linter.unusedSimpArgs false
set_option linter.unusedVariables false
set_option linter.unusedSectionVars false
namespace Go.SL

/-- Keys of a kind, as values: they are checked, found and kept as Go does. -/
structure KeyOk (P : Program) (kt : TypeId) {κ : Type} (kv : κ → Value) : Prop where
  inj : ∀ a b, kv a = kv b → a = b
  check : ∀ (e : Bool) (k : κ) (w : World), (Instr.checkKey e 10000 kt (kv k)).run P w = .ok () w
  find : ∀ (k : κ) (l : List MapEntry) (ks : List κ) (w : World), l.map (·.key) = ks.map kv →
    ∃ r, (Instr.findKey kt (kv k) l).run P w = .ok r w ∧
      ((r = none ∧ k ∉ ks) ∨ ∃ i e, r = some (i, e.val) ∧ l[i]? = some e ∧ ks[i]? = some k ∧ ∀ j, j < i → ks[j]? ≠ some k)
  bits : ∀ k, Instr.sameBits 10000 (kv k) (kv k) = true

theorem findNow_spec {κ : Type} {kv : κ → Value} {kind : TypeDesc} [DecidableEq κ] (hs : ∀ a b, Instr.sameNow kind (kv a) (kv b) = some (decide (a = b))) (k : κ) :
    ∀ (l : List MapEntry) (ks : List κ) (o : Nat), l.map (·.key) = ks.map kv →
      ∃ r, Instr.findNow kind (kv k) l o = some r ∧ ((r = none ∧ k ∉ ks) ∨ ∃ i e, r = some (o + i, e.val) ∧ l[i]? = some e ∧ ks[i]? = some k ∧ ∀ j, j < i → ks[j]? ≠ some k) := by
  intro l
  induction l with
  | nil =>
    intro ks o h
    have : ks = [] := by simpa using h.symm
    subst this
    exact ⟨none, rfl, .inl ⟨rfl, by simp⟩⟩
  | cons e l ih =>
    intro ks o h
    cases ks with
    | nil => simp at h
    | cons c ks =>
      simp only [List.map_cons, List.cons.injEq] at h
      obtain ⟨h1, h2⟩ := h
      simp only [Instr.findNow, h1, hs]
      by_cases hkc : k = c
      · subst hkc
        refine ⟨_, by simp; rfl, .inr ⟨0, e, by simp, by simp, by simp, fun j hj => absurd hj (by omega)⟩⟩
      · obtain ⟨r, hr, hcase⟩ := ih ks (o + 1) h2
        refine ⟨r, by simp [hkc, hr], ?_⟩
        rcases hcase with ⟨rfl, hn⟩ | ⟨i, e', rfl, hi, hk, hj⟩
        · exact .inl ⟨rfl, by simp [hkc, hn]⟩
        · refine .inr ⟨i + 1, e', by congr 2; omega, by simpa using hi, by simpa using hk, fun j hj' => ?_⟩
          cases j with
          | zero => simp; exact fun h => hkc h.symm
          | succ j => simpa using hj j (by omega)

theorem keyOk_of_same {P : Program} {kt : TypeId} {kind : TypeDesc} {κ : Type} [DecidableEq κ] {kv : κ → Value} (hu : P.underlying kt = some kind) (hs : ∀ a b, Instr.sameNow kind (kv a) (kv b) = some (decide (a = b)))
    (hk : (match kind with | .interface _ => false | .array _ _ => false | .struct _ => false | _ => true) = true)
    (inj : ∀ a b, kv a = kv b → a = b) (bits : ∀ k, Instr.sameBits 10000 (kv k) (kv k) = true) : KeyOk P kt kv where
  inj := inj
  check := fun e k w => by
    unfold Instr.checkKey
    simp only [Sem.run_bind, underlying, run_program, Result.andThen_ok, hu, Sem.run_pure]
    cases kind <;> simp_all
  find := fun k l ks w h => by
    obtain ⟨r, hr, hcase⟩ := findNow_spec hs k l ks 0 h
    refine ⟨r, ?_, ?_⟩
    · simp only [Instr.findKey, Sem.run_bind, underlying, run_program, Result.andThen_ok, hu, Sem.run_pure, hr]
    · rcases hcase with h | ⟨i, e, hr, hi, hk, hj⟩
      · exact .inl h
      · exact .inr ⟨i, e, by rw [hr]; simp, hi, hk, hj⟩
  bits := bits

theorem beqB (a b : ByteArray) : (a == b) = decide (a = b) := by
  rw [Bool.eq_iff_iff]
  simp only [decide_eq_true_eq]
  constructor
  · intro h
    have h1 : (a.data == b.data) = true := h
    cases a; cases b; simp at h1; rw [h1]
  · rintro rfl
    show (a.data == a.data) = true
    simp
theorem map_eraseIdx' {α β : Type} (g : α → β) (l : List α) (i : Nat) : (l.eraseIdx i).map g = (l.map g).eraseIdx i := by
  induction l generalizing i with
  | nil => rfl
  | cons x l ih => cases i <;> simp [ih]
theorem keyStr {P : Program} {kt : TypeId} (hu : P.underlying kt = some .string) : KeyOk P kt Value.string :=
  keyOk_of_same hu (fun a b => by simp only [Instr.sameNow, beqB]) rfl (fun a b h => by cases h; rfl) (fun k => by simp [Instr.sameBits, beqB])
theorem keyInt {P : Program} {kt : TypeId} {j : IntKind} (hu : P.underlying kt = some (.int j)) : KeyOk P kt (Value.int j) :=
  keyOk_of_same hu (fun a b => by simp only [Instr.sameNow, if_true, beqI]) rfl (fun a b h => by cases h; rfl) (fun k => by simp [Instr.sameBits])

/-! ## a map as a list of keys and values -/
section
variable {κ : Type} [DecidableEq κ]
def alook (es : List (κ × Value)) (k : κ) : Option Value := (es.find? fun x => decide (x.1 = k)).map (·.2)
def aset (es : List (κ × Value)) (k : κ) (v : Value) : List (κ × Value) := if k ∈ es.map (·.1) then es.map (fun x => if x.1 = k then (k, v) else x) else es ++ [(k, v)]
def adel (es : List (κ × Value)) (k : κ) : List (κ × Value) := es.filter fun x => !decide (x.1 = k)

theorem alook_none {es : List (κ × Value)} {k : κ} : alook es k = none ↔ k ∉ es.map (·.1) := by
  unfold alook
  simp only [Option.map_eq_none_iff, List.find?_eq_none, decide_eq_true_eq, List.mem_map, not_exists, not_and]
theorem alook_get {es : List (κ × Value)} {k : κ} {i : Nat} {v : Value} (hi : es[i]? = some (k, v)) (hj : ∀ j, j < i → (es.map (·.1))[j]? ≠ some k) : alook es k = some v := by
  induction es generalizing i with
  | nil => simp at hi
  | cons x es ih =>
    cases i with
    | zero => simp at hi; subst hi; simp [alook]
    | succ i =>
      simp at hi
      have h0 := hj 0 (by omega)
      simp at h0
      have := ih hi (fun j hj' => by have := hj (j + 1) (by omega); simpa using this)
      unfold alook at this ⊢
      simp [h0, this]

/-- Block b is a map of these entries. -/
def mapW (kv : κ → Value) (o : Obj) (es : List (κ × Value)) : Prop :=
  ∃ entries clock, o = .map entries clock ∧ entries.toList.map (fun e => (e.key, e.val)) = es.map (fun x => (kv x.1, x.2)) ∧ (es.map (·.1)).Nodup ∧ (∀ e ∈ entries.toList, e.born < clock) ∧ (entries.toList.map (·.born)).Nodup
def mapR (kv : κ → Value) (b : Nat) (es : List (κ × Value)) : HP := fun h => ∃ o, mapW kv o es ∧ pts b o h

theorem Sat.getMap {G : Glob} {w : World} {H : List HP} {kv : κ → Value} {b : Nat} {es : List (κ × Value)} (hs : Sat G w H) {i : Nat} (hi : getL H i = some (mapR kv b es)) : ∃ o, mapW kv o es ∧ w.heap[b]? = some o := by
  obtain ⟨h, hh, o, ho, hp⟩ := hs.getA hi
  exact ⟨o, ho, hh b o (by rw [hp b]; simp)⟩
theorem mapR_new (kv : κ → Value) (b : Nat) : ∀ h, pts b (.map #[] 0) h → mapR kv b [] h := fun h hp => ⟨_, ⟨#[], 0, rfl, rfl, by simp, by simp, by simp⟩, hp⟩
theorem mapR_nodup {kv : κ → Value} {b : Nat} {es : List (κ × Value)} {h : Hp} (hm : mapR kv b es h) : (es.map (·.1)).Nodup := by
  obtain ⟨o, ⟨_, _, _, _, hn, _⟩, _⟩ := hm; exact hn

/-- Put the item i anew: another object in its block. -/
theorem Sat.putMap {G : Glob} {w : World} {H H' : List HP} {kv : κ → Value} {b : Nat} {es es' : List (κ × Value)} {o' : Obj} {i : Nat} (hs : Sat G w H) (hi : getL H i = some (mapR kv b es)) (hm : mapW kv o' es') (hp : putP i (mapR kv b es') H [] = .mk H') :
    Sat G { w with heap := w.heap.setIfInBounds b o' } H' := by
  have hs1 := hs.ent (Ent.perm (perm_of_get (by rw [← getL_eq]; exact hi)))
  obtain ⟨hT, hO, hU', hh, hsub, h1, h2, ⟨o, ho, hpt⟩, hB, hd, hj⟩ := hs1
  have hs2 : Sat G w (pts b o :: H.eraseIdx i) := ⟨hT, hO, hU', hh, hsub, h1, h2, hpt, hB, hd, hj⟩
  have h3 := hs2.set0 (o' := o')
  have h4 := putP_eq i _ _ H [] H' hp hi
  refine (h3.ent ?_).ent (Ent.perm (by simpa using h4.symm))
  exact Ent.fold (B := [_]) fun h hs => ⟨h, sub.refl h, o', hm, Sep_one hs⟩
end

section
variable {P : Program} {U : Tr} [hU : TabOk P U] {f : FuncId} {n : Nat} {R : Ending → World → Prop} {G : Glob} {k : List Item} {L : Lst} {H H' : List HP} {S : World → Prop} {all : Array Oper} {rest : Pl}
  {ty : TypeId} {pos : String} {af : Array Edge} {gd : Option (Nat × Bool)} {m : Bool} {d : Tmp}
variable {κ : Type} [DecidableEq κ] {kv : κ → Value}

theorem run_getObj_map {w : World} {b : Nat} {es : Array MapEntry} {c : Nat} (h : w.heap[b]? = some (.map es c)) : (getObj b).run P w = .ok (.map es c) w := by
  simp [getObj, Sem.run, h]

theorem run_lookup {t kt et : TypeId} {ty' te : Ty} {z : Value} {b : Nat} {es : List (κ × Value)} {key : κ} {o : Obj} {w : World} (c : Bool) (hko : KeyOk P kt kv) (ht : U.get t = some ty') (hu : ty'.und = .map kt et) (he : U.get et = some te) (hz : te.info.zero = some z)
    (hm : mapW kv o es) (hb : w.heap[b]? = some o) :
    (Instr.lookup t (.map (some b)) (kv key) c).run P w = .ok (if c then .tuple #[(alook es key).getD z, .bool (alook es key).isSome] else (alook es key).getD z) w := by
  obtain ⟨entries, clock, rfl, hes, hnd, hborn, hbn⟩ := hm
  have hks : entries.toList.map (·.key) = (es.map (·.1)).map kv := by
    have := congrArg (List.map (·.1)) hes
    simpa [Function.comp_def] using this
  obtain ⟨r, hr, hcase⟩ := hko.find key entries.toList (es.map (·.1)) w hks
  unfold Instr.lookup
  simp only [Sem.run_bind, run_underlying ht, Result.andThen_ok, hu, run_getObj_map hb, Sem.run_pure, hko.check, hr]
  rcases hcase with ⟨rfl, hn⟩ | ⟨i, e, rfl, hi, hk, hj⟩
  · have := alook_none.2 hn
    simp only [Sem.run_bind, run_zeroValue he hz, Result.andThen_ok, Sem.run_pure, this]
    cases c <;> rfl
  · have hv : es[i]? = some (key, e.val) := by
      have h1 := congrArg (·[i]?) hes
      simp only [List.getElem?_map, hi, Option.map_some] at h1
      simp only [List.getElem?_map] at hk
      cases hx : es[i]? with
      | none => rw [hx] at hk; cases hk
      | some x =>
        rw [hx] at h1 hk
        simp only [Option.map_some, Option.some.injEq, Prod.mk.injEq] at h1 hk
        rw [← hk, h1.2]
    have := alook_get hv hj
    simp only [Sem.run_pure, Result.andThen_ok, this]
    cases c <;> rfl

theorem J_lookup {t kt et : TypeId} {ty' te : Ty} {z : Value} {x y : Operand} {b : Nat} {es : List (κ × Value)} {key : κ} {kval : Value} (i : Nat) (hd : Nat.blt d n = true) (hko : KeyOk P kt kv)
    (hx : ev L x = some (.map (some b))) (hy : ev L y = some kval) (hkv : kval = kv key) (ht : U.get t = some ty') (hu : ty'.und = .map kt et) (he : U.get et = some te) (hz : te.info.zero = some z) (hi : getL H i = some (mapR kv b es))
    (h : J P f n R G S all rest k ((d, (alook es key).getD z) :: L) H) : J P f n R G S all (.cons false true ⟨some d, .lookup t x y false, ty, pos, af, gd⟩ rest) k L H :=
  J_read hd (fun a w ha hw => by
    obtain ⟨o, hm, hb⟩ := hw.getMap hi
    subst hkv
    simp [execOp, ha.ev hx, ha.ev hy, run_lookup (P := P) (key := key) false hko ht hu he hz hm hb]) h
theorem J_lookupOk {t kt et : TypeId} {ty' te : Ty} {z : Value} {x y : Operand} {b : Nat} {es : List (κ × Value)} {key : κ} {kval : Value} (i : Nat) (hd : Nat.blt d n = true) (hko : KeyOk P kt kv)
    (hx : ev L x = some (.map (some b))) (hy : ev L y = some kval) (hkv : kval = kv key) (ht : U.get t = some ty') (hu : ty'.und = .map kt et) (he : U.get et = some te) (hz : te.info.zero = some z) (hi : getL H i = some (mapR kv b es))
    (h : J P f n R G S all rest k ((d, .tuple #[(alook es key).getD z, .bool (alook es key).isSome]) :: L) H) : J P f n R G S all (.cons false true ⟨some d, .lookup t x y true, ty, pos, af, gd⟩ rest) k L H :=
  J_read hd (fun a w ha hw => by
    obtain ⟨o, hm, hb⟩ := hw.getMap hi
    subst hkv
    simp [execOp, ha.ev hx, ha.ev hy, run_lookup (P := P) (key := key) true hko ht hu he hz hm hb]) h
theorem J_lookupC {t kt et : TypeId} {ty' te : Ty} {z : Value} {x y : Operand} {b : Nat} {es : List (κ × Value)} {key : κ} {kval : Value} (hd : Nat.blt d n = true) (hko : KeyOk P kt kv)
    (hx : ev L x = some (.map (some b))) (hy : ev L y = some kval) (hkv : kval = kv key) (ht : U.get t = some ty') (hu : ty'.und = .map kt et) (he : U.get et = some te) (hz : te.info.zero = some z) (hi : ∀ w, Sat G w H → ∃ o, mapW kv o es ∧ w.heap[b]? = some o)
    (h : J P f n R G S all rest k ((d, (alook es key).getD z) :: L) H) : J P f n R G S all (.cons false true ⟨some d, .lookup t x y false, ty, pos, af, gd⟩ rest) k L H :=
  J_read hd (fun a w ha hw => by
    obtain ⟨o, hm, hb⟩ := hi w hw
    subst hkv
    simp [execOp, ha.ev hx, ha.ev hy, run_lookup (P := P) (key := key) false hko ht hu he hz hm hb]) h
theorem J_lookupOkC {t kt et : TypeId} {ty' te : Ty} {z : Value} {x y : Operand} {b : Nat} {es : List (κ × Value)} {key : κ} {kval : Value} (hd : Nat.blt d n = true) (hko : KeyOk P kt kv)
    (hx : ev L x = some (.map (some b))) (hy : ev L y = some kval) (hkv : kval = kv key) (ht : U.get t = some ty') (hu : ty'.und = .map kt et) (he : U.get et = some te) (hz : te.info.zero = some z) (hi : ∀ w, Sat G w H → ∃ o, mapW kv o es ∧ w.heap[b]? = some o)
    (h : J P f n R G S all rest k ((d, .tuple #[(alook es key).getD z, .bool (alook es key).isSome]) :: L) H) : J P f n R G S all (.cons false true ⟨some d, .lookup t x y true, ty, pos, af, gd⟩ rest) k L H :=
  J_read hd (fun a w ha hw => by
    obtain ⟨o, hm, hb⟩ := hi w hw
    subst hkv
    simp [execOp, ha.ev hx, ha.ev hy, run_lookup (P := P) (key := key) true hko ht hu he hz hm hb]) h
theorem J_lookupS {t kt et : TypeId} {ty' te : Ty} {z : Value} {x y : Operand} {b : Nat} {es : List (κ × Value)} {key : κ} {kval : Value} (hd : Nat.blt d n = true) (hko : KeyOk P kt kv)
    (hx : ev L x = some (.map (some b))) (hy : ev L y = some kval) (hkv : kval = kv key) (ht : U.get t = some ty') (hu : ty'.und = .map kt et) (he : U.get et = some te) (hz : te.info.zero = some z) (hi : ∀ w, S w → ∃ o, mapW kv o es ∧ w.heap[b]? = some o)
    (h : J P f n R G S all rest k ((d, (alook es key).getD z) :: L) H) : J P f n R G S all (.cons true true ⟨some d, .lookup t x y false, ty, pos, af, gd⟩ rest) k L H :=
  J_readS hd (fun a w ha hw => by
    obtain ⟨o, hm, hb⟩ := hi w hw
    subst hkv
    simp [execOp, ha.ev hx, ha.ev hy, run_lookup (P := P) (key := key) false hko ht hu he hz hm hb]) h
theorem J_lookupOkS {t kt et : TypeId} {ty' te : Ty} {z : Value} {x y : Operand} {b : Nat} {es : List (κ × Value)} {key : κ} {kval : Value} (hd : Nat.blt d n = true) (hko : KeyOk P kt kv)
    (hx : ev L x = some (.map (some b))) (hy : ev L y = some kval) (hkv : kval = kv key) (ht : U.get t = some ty') (hu : ty'.und = .map kt et) (he : U.get et = some te) (hz : te.info.zero = some z) (hi : ∀ w, S w → ∃ o, mapW kv o es ∧ w.heap[b]? = some o)
    (h : J P f n R G S all rest k ((d, .tuple #[(alook es key).getD z, .bool (alook es key).isSome]) :: L) H) : J P f n R G S all (.cons true true ⟨some d, .lookup t x y true, ty, pos, af, gd⟩ rest) k L H :=
  J_readS hd (fun a w ha hw => by
    obtain ⟨o, hm, hb⟩ := hi w hw
    subst hkv
    simp [execOp, ha.ev hx, ha.ev hy, run_lookup (P := P) (key := key) true hko ht hu he hz hm hb]) h
theorem J_lookupNil {t kt et : TypeId} {ty' te : Ty} {z : Value} {x y : Operand} {key : κ} {kval : Value} (hd : Nat.blt d n = true) (hko : KeyOk P kt kv)
    (hx : ev L x = some (.map none)) (hy : ev L y = some kval) (hkv : kval = kv key) (ht : U.get t = some ty') (hu : ty'.und = .map kt et) (he : U.get et = some te) (hz : te.info.zero = some z)
    (h : J P f n R G S all rest k ((d, z) :: L) H) : J P f n R G S all (.cons m true ⟨some d, .lookup t x y false, ty, pos, af, gd⟩ rest) k L H :=
  J_pure hd (fun a ha w => by
    subst hkv
    obtain ⟨r, hr, hcase⟩ := hko.find key [] [] w rfl
    have : r = none := by rcases hcase with ⟨h, _⟩ | ⟨i, e, _, hi, _⟩; exact h; simp at hi
    subst this
    simp [execOp, ha.ev hx, ha.ev hy, Instr.lookup, run_underlying ht, hu, hko.check, hr, run_zeroValue he hz]) h
theorem J_lookupNilOk {t kt et : TypeId} {ty' te : Ty} {z : Value} {x y : Operand} {key : κ} {kval : Value} (hd : Nat.blt d n = true) (hko : KeyOk P kt kv)
    (hx : ev L x = some (.map none)) (hy : ev L y = some kval) (hkv : kval = kv key) (ht : U.get t = some ty') (hu : ty'.und = .map kt et) (he : U.get et = some te) (hz : te.info.zero = some z)
    (h : J P f n R G S all rest k ((d, .tuple #[z, .bool false]) :: L) H) : J P f n R G S all (.cons m true ⟨some d, .lookup t x y true, ty, pos, af, gd⟩ rest) k L H :=
  J_pure hd (fun a ha w => by
    subst hkv
    obtain ⟨r, hr, hcase⟩ := hko.find key [] [] w rfl
    have : r = none := by rcases hcase with ⟨h, _⟩ | ⟨i, e, _, hi, _⟩; exact h; simp at hi
    subst this
    simp [execOp, ha.ev hx, ha.ev hy, Instr.lookup, run_underlying ht, hu, hko.check, hr, run_zeroValue he hz]) h

/-! ## writing -/
theorem mapW_set {entries : Array MapEntry} {clock : Nat} {es : List (κ × Value)} {key : κ} {v : Value} {i : Nat} {e : MapEntry} (hm : mapW kv (.map entries clock) es) (hi : entries.toList[i]? = some e) (hk : (es.map (·.1))[i]? = some key) :
    mapW kv (.map (entries.modify i fun e => { e with key := kv key, val := v }) clock) (aset es key v) := by
  obtain ⟨entries', clock', heq, hes, hnd, hborn, hbn⟩ := hm
  cases heq
  have hmem : key ∈ es.map (·.1) := List.mem_of_getElem? hk
  have hmod : (entries.modify i fun e => { e with key := kv key, val := v }).toList = entries.toList.modify i (fun e => { e with key := kv key, val := v }) := by simp
  refine ⟨_, clock, rfl, ?_, ?_, ?_, ?_⟩
  · rw [hmod]
    apply List.ext_getElem?
    intro j
    have hj := congrArg (·[j]?) hes
    simp only [List.getElem?_map] at hj
    simp only [aset, hmem, if_true, List.getElem?_map, List.getElem?_modify]
    cases hx : es[j]? with
    | none =>
      rw [hx] at hj
      simp at hj
      simp [hj]
    | some x =>
      rw [hx] at hj
      simp only [Option.map_some] at hj
      cases hy : entries.toList[j]? with
      | none => rw [hy] at hj; cases hj
      | some y =>
        rw [hy] at hj
        simp only [Option.map_some, Option.some.injEq, Prod.mk.injEq] at hj
        by_cases hij : i = j
        · subst hij
          simp only [List.getElem?_map, hx, Option.map_some, Option.some.injEq] at hk
          simp [hk]
        · have hne : x.1 ≠ key := fun hxk => by
            have h1 : (es.map (·.1))[j]? = some key := by simp [hx, hxk]
            exact hij ((List.getElem?_inj (by
              rcases Nat.lt_or_ge i (es.map (·.1)).length with h | h
              · exact h
              · rw [List.getElem?_eq_none h] at hk; cases hk) hnd).1 (hk.trans h1.symm))
          simp [hij, hne, hj.1, hj.2]
  · have : (aset es key v).map (·.1) = es.map (·.1) := by
      simp only [aset, hmem, if_true, List.map_map]
      apply List.map_congr_left
      intro x _
      simp only [Function.comp]
      split
      · rename_i h; exact h.symm
      · rfl
    rw [this]; exact hnd
  · intro e' he'
    rw [hmod] at he'
    obtain ⟨j, hj⟩ := List.getElem?_of_mem he'
    rw [List.getElem?_modify] at hj
    cases hy : entries.toList[j]? with
    | none => rw [hy] at hj; cases hj
    | some y =>
      rw [hy] at hj
      have := hborn y (List.mem_of_getElem? hy)
      simp at hj
      split at hj <;> (subst hj; exact this)
  · rw [hmod]
    have : (entries.toList.modify i (fun e => { e with key := kv key, val := v })).map (·.born) = entries.toList.map (·.born) := by
      apply List.ext_getElem?
      intro j
      simp only [List.getElem?_map, List.getElem?_modify]
      cases hy : entries.toList[j]? with
      | none => rfl
      | some y => simp only [Option.map_some]; split <;> rfl
    rw [this]; exact hbn

theorem mapW_push {entries : Array MapEntry} {clock : Nat} {es : List (κ × Value)} {key : κ} {v : Value} (hm : mapW kv (.map entries clock) es) (hn : key ∉ es.map (·.1)) :
    mapW kv (.map (entries.push { key := kv key, val := v, born := clock }) (clock + 1)) (aset es key v) := by
  obtain ⟨entries', clock', heq, hes, hnd, hborn, hbn⟩ := hm
  cases heq
  refine ⟨_, clock + 1, rfl, ?_, ?_, ?_, ?_⟩
  · simp [aset, hn, hes]
  · simp only [aset, hn, if_false, List.map_append, List.map_cons, List.map_nil]
    rw [List.nodup_append]
    exact ⟨hnd, by simp, fun a ha b hb => by simp at hb; subst hb; rintro rfl; exact hn ha⟩
  · intro e he
    simp only [Array.toList_push, List.mem_append, List.mem_singleton] at he
    rcases he with he | rfl
    · have := hborn e he; omega
    · simp
  · simp only [Array.toList_push, List.map_append, List.map_cons, List.map_nil]
    rw [List.nodup_append]
    refine ⟨hbn, by simp, fun a ha b hb => ?_⟩
    simp at hb
    subst hb
    obtain ⟨e, he, rfl⟩ := List.mem_map.1 ha
    have := hborn e he
    omega

theorem run_update {t kt et : TypeId} {ty' : Ty} {b : Nat} {es : List (κ × Value)} {key : κ} {v : Value} {w : World} {i : Nat} (hko : KeyOk P kt kv) (ht : U.get t = some ty') (hu : ty'.und = .map kt et) (hw : Sat G w H) (hi : getL H i = some (mapR kv b es)) (hp : putP i (mapR kv b (aset es key v)) H [] = .mk H') :
    ∃ w', (Instr.mapUpdate t (.map (some b)) (kv key) v).run P w = .ok () w' ∧ Sat G w' H' := by
  obtain ⟨o, hm, hb⟩ := hw.getMap hi
  have hm0 := hm
  obtain ⟨entries, clock, rfl, hes, hnd, hborn, hbn⟩ := hm
  have hks : entries.toList.map (·.key) = (es.map (·.1)).map kv := by
    have := congrArg (List.map (·.1)) hes
    simpa [Function.comp_def] using this
  obtain ⟨r, hr, hcase⟩ := hko.find key entries.toList (es.map (·.1)) w hks
  have hset : ∀ o', (setObj b o').run P w = .ok () { w with heap := w.heap.setIfInBounds b o' } := fun o' => by simp [setObj, Sem.run, hb]
  rcases hcase with ⟨rfl, hn⟩ | ⟨j, e, rfl, hj, hk, hlt⟩
  · refine ⟨_, ?_, hw.putMap hi (mapW_push (v := v) hm0 hn) hp⟩
    unfold Instr.mapUpdate
    simp only [Sem.run_bind, run_underlying ht, Result.andThen_ok, hu, run_getObj_map hb, hko.check, hr, hset]
  · refine ⟨_, ?_, hw.putMap hi (mapW_set (v := v) hm0 hj hk) hp⟩
    have hek : e.key = kv key := by
      have h1 := congrArg (·[j]?) hks
      simp only [List.getElem?_map, hj, Option.map_some] at h1 hk
      rw [hk] at h1
      simpa using h1
    have hj' : entries[j]? = some e := by simpa using hj
    unfold Instr.mapUpdate
    simp only [Sem.run_bind, run_underlying ht, Result.andThen_ok, hu, run_getObj_map hb, hko.check, hr, hj', Option.map_some, Option.getD_some, hek, Instr.keyThatStays, hko.bits, if_true, Sem.run_pure, hset]

theorem J_mapUpdate {t kt et : TypeId} {ty' : Ty} {x y v0 : Operand} {b : Nat} {es : List (κ × Value)} {key : κ} {kval v : Value} (i : Nat) (hko : KeyOk P kt kv)
    (hS : ∀ w, Sat G w H' → Sx rest S w)
    (hx : ev L x = some (.map (some b))) (hy : ev L y = some kval) (hkv : kval = kv key) (hv : ev L v0 = some v) (ht : U.get t = some ty') (hu : ty'.und = .map kt et) (hi : getL H i = some (mapR kv b es)) (hp : putP i (mapR kv b (aset es key v)) H [] = .mk H')
    (h : J P f n R G S all rest k L H') : J P f n R G S all (.cons false true ⟨none, .mapUpdate t x y v0, ty, pos, af, gd⟩ rest) k L H := by
  refine J_act0 (fun H1 => H1 = H') (fun a w ha hw => ?_) (fun H1 w e hw => hS w (e ▸ hw)) (fun H1 e => e ▸ h)
  subst hkv
  obtain ⟨w', hr, hs⟩ := run_update (P := P) hko ht hu hw hi hp
  exact ⟨w', H', by simp [execOp, ha.ev hx, ha.ev hy, ha.ev hv, hr], rfl, hs⟩
theorem J_insert {t kt et : TypeId} {ty' : Ty} {x y v0 : Operand} {b : Nat} {es : List (κ × Value)} {key : κ} {kval v : Value} (i : Nat) (hko : KeyOk P kt kv)
    (hS : ∀ w, Sat G w H' → Sx rest S w)
    (hx : ev L x = some (.map (some b))) (hy : ev L y = some kval) (hkv : kval = kv key) (hv : ev L v0 = some v) (ht : U.get t = some ty') (hu : ty'.und = .map kt et) (hi : getL H i = some (mapR kv b es)) (hp : putP i (mapR kv b (aset es key v)) H [] = .mk H')
    (h : J P f n R G S all rest k L H') : J P f n R G S all (.cons false true ⟨none, .insert t x y v0, ty, pos, af, gd⟩ rest) k L H := by
  refine J_act0 (fun H1 => H1 = H') (fun a w ha hw => ?_) (fun H1 w e hw => hS w (e ▸ hw)) (fun H1 e => e ▸ h)
  subst hkv
  obtain ⟨w', hr, hs⟩ := run_update (P := P) hko ht hu hw hi hp
  exact ⟨w', H', by simp [execOp, ha.ev hx, ha.ev hy, ha.ev hv, hr], rfl, hs⟩

theorem filter_erase {es : List (κ × Value)} {key : κ} : ∀ {i : Nat}, (es.map (·.1)).Nodup → (es.map (·.1))[i]? = some key → adel es key = es.eraseIdx i := by
  induction es with
  | nil => intro i _ h; simp at h
  | cons x es ih =>
    intro i hnd hk
    simp only [List.map_cons, List.nodup_cons] at hnd
    cases i with
    | zero =>
      simp at hk
      subst hk
      simp only [adel, decide_true, Bool.not_true, List.filter_cons, Bool.false_eq_true, if_false, List.eraseIdx_cons_zero]
      apply List.filter_eq_self.2
      intro y hy
      simp only [Bool.not_eq_true', decide_eq_false_iff_not]
      intro e
      exact hnd.1 (List.mem_map.2 ⟨y, hy, e⟩)
    | succ i =>
      simp at hk
      have hne : x.1 ≠ key := fun e => hnd.1 (by rw [e]; exact List.mem_of_getElem? (by simpa using hk))
      have := ih hnd.2 (i := i) (by simpa using hk)
      simp only [adel] at this ⊢
      simp [hne, this]
theorem adel_none {es : List (κ × Value)} {key : κ} (h : key ∉ es.map (·.1)) : adel es key = es := by
  apply List.filter_eq_self.2
  intro y hy
  simp only [Bool.not_eq_true', decide_eq_false_iff_not]
  intro e
  exact h (List.mem_map.2 ⟨y, hy, e⟩)

theorem mapW_del {entries : Array MapEntry} {clock : Nat} {es : List (κ × Value)} {key : κ} {i : Nat} {e : MapEntry} (hm : mapW kv (.map entries clock) es) (hi : entries.toList[i]? = some e) (hk : (es.map (·.1))[i]? = some key) :
    mapW kv (.map (entries.eraseIdxIfInBounds i) clock) (adel es key) := by
  obtain ⟨entries', clock', heq, hes, hnd, hborn, hbn⟩ := hm
  cases heq
  have hel : (entries.eraseIdxIfInBounds i).toList = entries.toList.eraseIdx i := by simp
  rw [filter_erase hnd hk]
  refine ⟨_, clock, rfl, ?_, ?_, ?_, ?_⟩
  · rw [hel, map_eraseIdx', map_eraseIdx', hes]
  · rw [map_eraseIdx']; exact hnd.eraseIdx _
  · intro e' he'; rw [hel] at he'; exact hborn e' (List.mem_of_mem_eraseIdx he')
  · rw [hel, map_eraseIdx']; exact hbn.eraseIdx _

theorem J_delete {t kt et : TypeId} {ty' : Ty} {x y : Operand} {t2 : TypeId} {b : Nat} {es : List (κ × Value)} {key : κ} {kval : Value} (i : Nat) (hko : KeyOk P kt kv)
    (hS : ∀ w, Sat G w H' → Sx rest S w)
    (hx : ev L x = some (.map (some b))) (hy : ev L y = some kval) (hkv : kval = kv key) (ht : U.get t = some ty') (hu : ty'.und = .map kt et) (hi : getL H i = some (mapR kv b es)) (hp : putP i (mapR kv b (adel es key)) H [] = .mk H')
    (h : J P f n R G S all rest k L H') : J P f n R G S all (.cons false true ⟨none, .call { callee := .builtin .delete, args := #[x, y], argTypes := #[t, t2] }, ty, pos, af, gd⟩ rest) k L H := by
  intro a w ha hw _
  subst hkv
  obtain ⟨o, hm, hb⟩ := hw.getMap hi
  have hm0 := hm
  obtain ⟨entries, clock, rfl, hes, hnd, hborn, hbn⟩ := hm
  have hks : entries.toList.map (·.key) = (es.map (·.1)).map kv := by
    have := congrArg (List.map (·.1)) hes
    simpa [Function.comp_def] using this
  obtain ⟨r, hr, hcase⟩ := hko.find key entries.toList (es.map (·.1)) w hks
  have hset : ∀ o', (setObj b o').run P w = .ok () { w with heap := w.heap.setIfInBounds b o' } := fun o' => by simp [setObj, Sem.run, hb]
  refine .inl ⟨.inl rfl, .inr ⟨rfl, ?_⟩⟩
  rcases hcase with ⟨rfl, hn⟩ | ⟨j, e, rfl, hj, hk, hlt⟩
  · have hs := hw.putMap hi (o' := .map entries clock) (es' := adel es key) (by rw [adel_none hn]; exact hm0) hp
    have : (execOp a.eval ⟨none, .call { callee := .builtin .delete, args := #[x, y], argTypes := #[t, t2] }, ty, pos, af, gd⟩).run P w = .ok (.value (.tuple #[])) { w with heap := w.heap.setIfInBounds b (.map entries clock) } := by
      simp only [execOp, resolve, invoke, builtin, Sem.run_bind, Sem.run_pure, Result.andThen_ok, List.map_toArray, List.map_cons, List.map_nil, ha.ev hx, ha.ev hy, Builtin.delete_, List.getElem?_toArray, List.getElem?_cons_zero, List.getElem?_cons_succ,
        run_underlying ht, hu, run_getObj_map hb, hko.check, hr, hset]
    exact wpIn_value this ⟨hS _ hs, h a _ ha hs (hS _ hs)⟩
  · have hs := hw.putMap hi (mapW_del hm0 hj hk) hp
    have : (execOp a.eval ⟨none, .call { callee := .builtin .delete, args := #[x, y], argTypes := #[t, t2] }, ty, pos, af, gd⟩).run P w = .ok (.value (.tuple #[])) { w with heap := w.heap.setIfInBounds b (.map (entries.eraseIdxIfInBounds j) clock) } := by
      simp only [execOp, resolve, invoke, builtin, Sem.run_bind, Sem.run_pure, Result.andThen_ok, List.map_toArray, List.map_cons, List.map_nil, ha.ev hx, ha.ev hy, Builtin.delete_, List.getElem?_toArray, List.getElem?_cons_zero, List.getElem?_cons_succ,
        run_underlying ht, hu, run_getObj_map hb, hko.check, hr, hset]
    exact wpIn_value this ⟨hS _ hs, h a _ ha hs (hS _ hs)⟩

theorem run_lenMap {t kt et : TypeId} {ty' : Ty} {b : Nat} {es : List (κ × Value)} {o : Obj} {w : World} {rty : TypeId} (ht : U.get t = some ty') (hu : ty'.und = .map kt et) (hm : mapW kv o es) (hb : w.heap[b]? = some o) :
    (Builtin.len_ #[t] rty #[.map (some b)]).run P w = .ok (.int .i64 es.length) w := by
  obtain ⟨entries, clock, rfl, hes, hnd, hborn, hbn⟩ := hm
  have hl : entries.size = es.length := by have := congrArg List.length hes; simpa using this
  simp [Builtin.len_, run_underlying ht, hu, run_getObj_map hb, goInt, hl]
theorem J_lenMap {t kt et : TypeId} {ty' : Ty} {x : Operand} {b : Nat} {es : List (κ × Value)} (i : Nat) (hd : Nat.blt d n = true)
    (hx : ev L x = some (.map (some b))) (ht : U.get t = some ty') (hu : ty'.und = .map kt et) (hi : getL H i = some (mapR kv b es))
    (h : J P f n R G S all rest k ((d, .int .i64 es.length) :: L) H) : J P f n R G S all (.cons false true ⟨some d, .call { callee := .builtin .len, args := #[x], argTypes := #[t] }, ty, pos, af, gd⟩ rest) k L H :=
  J_read hd (fun a w ha hw => by
    obtain ⟨o, hm, hb⟩ := hw.getMap hi
    simp [execOp, resolve, invoke, builtin, ha.ev hx, run_lenMap (P := P) ht hu hm hb]) h
theorem J_lenMapC {t kt et : TypeId} {ty' : Ty} {x : Operand} {b : Nat} {es : List (κ × Value)} (hd : Nat.blt d n = true)
    (hx : ev L x = some (.map (some b))) (ht : U.get t = some ty') (hu : ty'.und = .map kt et) (hi : ∀ w, Sat G w H → ∃ o, mapW kv o es ∧ w.heap[b]? = some o)
    (h : J P f n R G S all rest k ((d, .int .i64 es.length) :: L) H) : J P f n R G S all (.cons false true ⟨some d, .call { callee := .builtin .len, args := #[x], argTypes := #[t] }, ty, pos, af, gd⟩ rest) k L H :=
  J_read hd (fun a w ha hw => by
    obtain ⟨o, hm, hb⟩ := hi w hw
    simp [execOp, resolve, invoke, builtin, ha.ev hx, run_lenMap (P := P) ht hu hm hb]) h
theorem J_lenMapS {t kt et : TypeId} {ty' : Ty} {x : Operand} {b : Nat} {es : List (κ × Value)} (hd : Nat.blt d n = true)
    (hx : ev L x = some (.map (some b))) (ht : U.get t = some ty') (hu : ty'.und = .map kt et) (hi : ∀ w, S w → ∃ o, mapW kv o es ∧ w.heap[b]? = some o)
    (h : J P f n R G S all rest k ((d, .int .i64 es.length) :: L) H) : J P f n R G S all (.cons true true ⟨some d, .call { callee := .builtin .len, args := #[x], argTypes := #[t] }, ty, pos, af, gd⟩ rest) k L H :=
  J_readS hd (fun a w ha hw => by
    obtain ⟨o, hm, hb⟩ := hi w hw
    simp [execOp, resolve, invoke, builtin, ha.ev hx, run_lenMap (P := P) ht hu hm hb]) h

/-! ## ranging over a map that nobody turns -/
def mapI (kv : κ → Value) (b it : Nat) (es : List (κ × Value)) (done : List κ) : HP := fun h =>
  ∃ entries clock seen, mapW kv (.map entries clock) es ∧ (∀ (i : Nat) (e : MapEntry) (x : κ × Value), entries.toList[i]? = some e → es[i]? = some x → (seen.contains e.born = true ↔ x.1 ∈ done)) ∧
    (∀ key, done.head? = some key → ∃ e ∈ entries.toList, e.key = kv key ∧ seen.back? = some e.born) ∧
    star (pts b (.map entries clock)) (pts it (.mapIter (some b) clock seen clock)) h
theorem mapI_mapR {b it : Nat} {es : List (κ × Value)} {done : List κ} : ∀ h, mapI kv b it es done h → ∃ h', sub h' h ∧ mapR kv b es h' := by
  rintro h ⟨entries, clock, seen, hm, _, _, hs⟩
  obtain ⟨h', s, hp⟩ := star_left hs
  exact ⟨h', s, _, hm, hp⟩
theorem mapI_nodup {b it : Nat} {es : List (κ × Value)} {done : List κ} {h : Hp} (hm : mapI kv b it es done h) : (es.map (·.1)).Nodup := by
  obtain ⟨_, _, _, ⟨_, _, _, _, hn, _⟩, _⟩ := hm; exact hn

theorem J_range {t kt et : TypeId} {ty' : Ty} {x : Operand} {b : Nat} {es : List (κ × Value)} (i : Nat) (hd : Nat.blt d n = true)
    (hx : ev L x = some (.map (some b))) (ht : U.get t = some ty') (hu : ty'.und = .map kt et) (hi : getL H i = some (mapR kv b es)) {Hf : Nat → List HP} (hp : ∀ it, putP i (mapI kv b it es []) H [] = .mk (Hf it))
    (hS : ∀ it w, Sat G w (Hf it) → Sx rest S w)
    (h : ∀ it, J P f n R G S all rest k ((d, .pointer (some ⟨it, 0, none⟩)) :: L) (Hf it)) : J P f n R G S all (.cons false true ⟨some d, .range t x, ty, pos, af, gd⟩ rest) k L H := by
  refine J_act hd (fun u H1 => ∃ it, u = .pointer (some ⟨it, 0, none⟩) ∧ H1 = Hf it) (fun a w ha hw => ?_) ?_ ?_
  · obtain ⟨o, hm, hb⟩ := hw.getMap hi
    have hs1 := hw.ent (Ent.perm (perm_of_get (by rw [← getL_eq]; exact hi)))
    obtain ⟨hT, hO, hU', hh, hsub, h1, h2, ⟨o', ho', hpt⟩, hB, hdj, hj⟩ := hs1
    have hoo : o' = o := by
      have : w.heap[b]? = some o' := hsub b o' (by rw [hj b, hpt b]; simp)
      rw [hb] at this; cases this; rfl
    subst hoo
    have hs2 : Sat G w (pts b o' :: H.eraseIdx i) := ⟨hT, hO, hU', hh, hsub, h1, h2, hpt, hB, hdj, hj⟩
    obtain ⟨entries, clock, rfl, hrest⟩ := hm
    refine ⟨_, { w with heap := w.heap.push (.mapIter (some b) clock #[] clock) }, Hf w.heap.size, ?_, ⟨w.heap.size, rfl, rfl⟩, ?_⟩
    · simp only [execOp, ha.ev hx, Instr.range, Sem.run_bind, run_underlying ht, Result.andThen_ok, hu, run_getObj_map hb, Sem.run_pure, run_newObj]
    · have h3 := hs2.alloc (.mapIter (some b) clock #[] clock)
      have h4 := putP_eq i _ _ H [] (Hf w.heap.size) (hp _) hi
      refine (h3.ent ?_).ent (Ent.perm (by simpa using h4.symm))
      refine (Ent.perm (List.Perm.swap _ _ _)).trans ?_
      refine Ent.fold (B := [_, _]) fun h hs => ⟨h, sub.refl h, entries, clock, #[], ⟨entries, clock, rfl, hrest⟩, fun i e x _ _ => by simp, by simp, ?_⟩
      exact star_mono (fun _ h => h) (fun _ h => Sep_one h) hs
  · rintro u H1 w ⟨it, rfl, rfl⟩ hw; exact hS it w hw
  · rintro u H1 ⟨it, rfl, rfl⟩; exact h it

theorem J_entry {x : Operand} {b it : Nat} {es : List (κ × Value)} {done : List κ} {key : κ} {v : Value} (i : Nat) (hd : Nat.blt d n = true) (hinj : ∀ a b, kv a = kv b → a = b)
    (hx : ev L x = some (.pointer (some ⟨it, 0, none⟩))) (hi : getL H i = some (mapI kv b it es (key :: done))) (hv : (key, v) ∈ es)
    (h : J P f n R G S all rest k ((d, .tuple #[kv key, v]) :: L) H) : J P f n R G S all (.cons false true ⟨some d, .entry x, ty, pos, af, gd⟩ rest) k L H :=
  J_read hd (fun a w ha hw => by
    have hs1 := hw.ent (Ent.perm (perm_of_get (by rw [← getL_eq]; exact hi)))
    obtain ⟨hT, hO, hU', hh, hsub, h1, h2, hA, hB, hdj, hj⟩ := hs1
    obtain ⟨entries, clock, seen, hm, hseen, hlast, h3, h4, hb1, hit1, hdj2, hj2⟩ := hA
    have hb : w.heap[b]? = some (.map entries clock) := hsub b _ (by rw [hj b, hj2 b, hb1 b]; simp)
    have hit : w.heap[it]? = some (.mapIter (some b) clock seen clock) := by
      refine hsub it _ ?_
      rw [hj it, hj2 it, hit1 it]
      rcases hdj2 it with e | e
      · rw [e]; simp
      · rw [hit1 it] at e; simp at e
    obtain ⟨entries', clock', heq, hes, hnd, hborn, hbn⟩ := hm
    cases heq
    have hgm := run_getObj_map (P := P) hb
    have hgi : (getObj it).run P w = .ok (.mapIter (some b) clock seen clock) w := by simp [getObj, Sem.run, hit]
    obtain ⟨e, he, hek, hback⟩ := hlast key rfl
    -- the cell's value
    obtain ⟨j, hj3⟩ := List.getElem?_of_mem he
    have hev : e.val = v := by
      have h6 := congrArg (·[j]?) hes
      simp only [List.getElem?_map, hj3, Option.map_some] at h6
      cases hx2 : es[j]? with
      | none => rw [hx2] at h6; cases h6
      | some x2 =>
        rw [hx2] at h6
        simp only [Option.map_some, Option.some.injEq, Prod.mk.injEq] at h6
        have hkk : x2.1 = key := hinj _ _ (h6.1.symm.trans hek)
        obtain ⟨j2, hj2'⟩ := List.getElem?_of_mem hv
        have h11 : (es.map (·.1))[j]? = (es.map (·.1))[j2]? := by simp only [List.getElem?_map, hx2, hj2', Option.map_some, hkk]
        have h12 : j = j2 := (List.getElem?_inj (by
          have : j < es.length := by
            rcases Nat.lt_or_ge j es.length with h | h
            · exact h
            · rw [List.getElem?_eq_none h] at hx2; cases hx2
          rw [List.length_map]; exact this) hnd).1 h11
        subst h12
        rw [hx2] at hj2'
        cases hj2'
        exact h6.2
    have hfind : entries.find? (fun x => x.born == e.born) = some e := by
      rw [← Array.find?_toList]
      cases hf : entries.toList.find? (fun x => x.born == e.born) with
      | none => have := List.find?_eq_none.1 hf e he; simp at this
      | some e2 =>
        have h1 := List.find?_some hf
        have h2 := List.mem_of_find?_eq_some hf
        simp only [beq_iff_eq] at h1
        obtain ⟨j2, hj2'⟩ := List.getElem?_of_mem h2
        have h11 : (entries.toList.map (·.born))[j2]? = (entries.toList.map (·.born))[j]? := by simp only [List.getElem?_map, hj3, hj2', Option.map_some, h1]
        have h12 : j2 = j := (List.getElem?_inj (by
          have : j2 < entries.toList.length := by
            rcases Nat.lt_or_ge j2 entries.toList.length with h | h
            · exact h
            · rw [List.getElem?_eq_none h] at hj2'; cases hj2'
          rw [List.length_map]; exact this) hbn).1 h11
        subst h12
        rw [hj3] at hj2'
        cases hj2'
        rfl
    simp only [execOp, ha.ev hx, Instr.entry, Sem.run_bind, hgi, hgm, Result.andThen_ok, hback, hfind, Sem.run_pure, hek, hev, bne_self_eq_false, Bool.false_eq_true, if_false]) h

theorem J_next {x : Operand} {b it : Nat} {es : List (κ × Value)} {done : List κ} (i : Nat) (hd : Nat.blt d n = true) (hinj : ∀ a b, kv a = kv b → a = b)
    (hx : ev L x = some (.pointer (some ⟨it, 0, none⟩))) (hi : getL H i = some (mapI kv b it es done)) {Hf : κ → List HP} (hp : ∀ key, putP i (mapI kv b it es (key :: done)) H [] = .mk (Hf key))
    (hS0 : ∀ w, Sat G w H → Sx rest S w) (hS : ∀ key w, Sat G w (Hf key) → Sx rest S w)
    (hend : (∀ y ∈ es, y.1 ∈ done) → J P f n R G S all rest k ((d, .tuple #[.bool false]) :: L) H)
    (hgo : ∀ key v, (key, v) ∈ es → key ∉ done → J P f n R G S all rest k ((d, .tuple #[.bool true, kv key, v]) :: L) (Hf key)) :
    J P f n R G S all (.cons false true ⟨some d, .next x false, ty, pos, af, gd⟩ rest) k L H := by
  intro a w ha hw _
  refine .inl ⟨.inl rfl, .inr ⟨rfl, ?_⟩⟩
  have hs1 := hw.ent (Ent.perm (perm_of_get (by rw [← getL_eq]; exact hi)))
  obtain ⟨hT, hO, hU', hh, hsub, h1, h2, hA, hB, hdj, hj⟩ := hs1
  obtain ⟨entries, clock, seen, hm, hseen, _, h3, h4, hb1, hit1, hdj2, hj2⟩ := hA
  have hb : w.heap[b]? = some (.map entries clock) := hsub b _ (by rw [hj b, hj2 b, hb1 b]; simp)
  have hit : w.heap[it]? = some (.mapIter (some b) clock seen clock) := by
    refine hsub it _ ?_
    rw [hj it, hj2 it, hit1 it]
    rcases hdj2 it with e | e
    · rw [e]; simp
    · rw [hit1 it] at e; simp at e
  obtain ⟨entries', clock', heq, hes, hnd, hborn, hbn⟩ := hm
  cases heq
  have hgm := run_getObj_map (P := P) hb
  have hgi : (getObj it).run P w = .ok (.mapIter (some b) clock seen clock) w := by simp [getObj, Sem.run, hit]
  have hall : (!seen.isEmpty && !entries.isEmpty && entries.all (·.born ≥ clock)) = false := by
    cases he : entries.isEmpty with
    | true => simp
    | false =>
      have hne : entries.toList ≠ [] := by simpa [Array.isEmpty_iff] using he
      obtain ⟨e, l, hel⟩ := List.exists_cons_of_ne_nil hne
      have h5 := hborn e (by rw [hel]; simp)
      have : entries.all (fun x => decide (x.born ≥ clock)) = false := by
        rw [← Array.all_toList, hel]
        simp
        intro h; omega
      rw [this]; simp
  have hold : ∀ (l : Array MapEntry), (∀ e ∈ l.toList, e ∈ entries.toList) → l.filter (·.born < clock) = l ∧ l.filter (·.born ≥ clock) = #[] := by
    intro l hl
    constructor
    · apply Array.filter_eq_self.2
      intro e he; simpa using hborn e (hl e (by simpa using he))
    · apply Array.filter_eq_empty_iff.2
      intro e he; have := hborn e (hl e (by simpa using he)); simp; omega
  have hleft := hold (entries.filter fun e => !seen.contains e.born) (fun e he => by simp at he; simpa using he.1)
  -- the entry that comes, if one does
  have hmemx : ∀ e, e ∈ entries.toList → ∃ (j : Nat) (x : κ × Value), entries.toList[j]? = some e ∧ es[j]? = some x ∧ x ∈ es ∧ e.key = kv x.1 ∧ e.val = x.2 ∧ (seen.contains e.born = true ↔ x.1 ∈ done) := by
    intro e he
    obtain ⟨j, hj3⟩ := List.getElem?_of_mem he
    have h6 := congrArg (·[j]?) hes
    simp only [List.getElem?_map, hj3, Option.map_some] at h6
    cases hx2 : es[j]? with
    | none => rw [hx2] at h6; cases h6
    | some x2 =>
      rw [hx2] at h6
      simp only [Option.map_some, Option.some.injEq, Prod.mk.injEq] at h6
      exact ⟨j, x2, hj3, hx2, List.mem_of_getElem? hx2, h6.1, h6.2, hseen j e x2 hj3 hx2⟩
  have hxmem : ∀ x, x ∈ es → ∃ e, e ∈ entries.toList ∧ e.key = kv x.1 ∧ (seen.contains e.born = true ↔ x.1 ∈ done) := by
    intro x2 hx2
    obtain ⟨j, hj3⟩ := List.getElem?_of_mem hx2
    have h6 := congrArg (·[j]?) hes
    simp only [List.getElem?_map, hj3, Option.map_some] at h6
    cases he : entries.toList[j]? with
    | none => rw [he] at h6; cases h6
    | some e =>
      rw [he] at h6
      simp only [Option.map_some, Option.some.injEq, Prod.mk.injEq] at h6
      exact ⟨e, List.mem_of_getElem? he, h6.1, hseen j e x2 he hj3⟩
  have hrun0 : (execOp a.eval ⟨some d, .next x false, ty, pos, af, gd⟩) = (do let v ← Instr.next (.pointer (some ⟨it, 0, none⟩)) false ty; pure (.value v)) := by simp only [execOp, ha.ev hx]
  refine wpIn_other (fun c hc => by cases hc) rfl ?_
  rw [hrun0]
  simp only [Sem.run_bind, Instr.next, hgi, Result.andThen_ok, hgm, hall, Bool.false_eq_true, if_false, hleft.1, hleft.2, Array.append_empty]
  by_cases hemp : (entries.filter fun e => !seen.contains e.born).isEmpty = true
  · have he : (entries.filter fun e => !seen.contains e.born) = #[] := Array.isEmpty_iff.1 hemp
    have hdone : ∀ y ∈ es, y.1 ∈ done := by
      intro y hy
      obtain ⟨e, hem, _, hiff⟩ := hxmem y hy
      apply hiff.1
      cases hc : seen.contains e.born with
      | true => rfl
      | false =>
        have : e ∈ (entries.filter fun e => !seen.contains e.born) := by simp only [Array.mem_filter]; exact ⟨by simpa using hem, by rw [hc]; rfl⟩
        rw [he] at this; simp at this
    have := hend hdone
    simp only [he, Array.isEmpty_empty, if_true, Array.map_empty, Array.append_empty, Sem.run_bind, run_choose]
    simp only [Question.forced, List.size_toArray, List.length_singleton, Nat.le_refl, decide_true, if_true, Result.andThen_ok, List.getElem?_toArray, List.getElem?_cons_zero, Sem.run_pure]
    exact ⟨hS0 w hw, this _ w (ha.put hd _) hw (hS0 w hw)⟩
  · have hemp' : (entries.filter fun e => !seen.contains e.born).isEmpty = false := by simpa using hemp
    obtain ⟨q, w1, hq, hw1, hchoice⟩ : ∃ q w1, q < (entries.filter fun e => !seen.contains e.born).size ∧ (w1 = w ∨ w1 = w.drew) ∧
        (choose (.mapNext ((entries.filter fun e => !seen.contains e.born).map some).size)).run P w = .ok q w1 := by
      have hpos : 0 < (entries.filter fun e => !seen.contains e.born).size := by
        rcases Nat.eq_zero_or_pos (entries.filter fun e => !seen.contains e.born).size with h | h
        · have := Array.eq_empty_of_size_eq_zero h; rw [this] at hemp'; simp at hemp'
        · exact h
      simp only [run_choose, Array.size_map]
      by_cases hf : (Question.mapNext (entries.filter fun e => !seen.contains e.born).size).forced = true
      · exact ⟨0, w, hpos, .inl rfl, by rw [if_pos hf]⟩
      · exact ⟨_, w.drew, Nat.mod_lt _ hpos, .inr rfl, by rw [if_neg hf]; rfl⟩
    have hget : ((entries.filter fun e => !seen.contains e.born).map some)[q]? = some (some (entries.filter fun e => !seen.contains e.born)[q]) := by simp [hq]
    generalize hE : (entries.filter fun e => !seen.contains e.born)[q] = e at hget
    have hmemE : e ∈ (entries.filter fun e => !seen.contains e.born) := by rw [← hE]; exact Array.getElem_mem hq
    simp only [Array.mem_filter] at hmemE
    obtain ⟨hmemE1, hmemE2⟩ := hmemE
    obtain ⟨i3, x2, hi3, hx3, hx2, hk2, hv2, hiff2⟩ := hmemx e (by simpa using hmemE1)
    have hnd2 : x2.1 ∉ done := fun h => by have := hiff2.2 h; rw [this] at hmemE2; cases hmemE2
    have hgoal := hgo x2.1 x2.2 hx2 hnd2
    simp only [hemp', Bool.false_eq_true, if_false, Array.empty_append, Sem.run_bind]
    rw [hchoice]
    have hset : (setObj it (.mapIter (some b) clock (seen.push e.born) clock)).run P w1 = .ok () { w1 with heap := w1.heap.setIfInBounds it (.mapIter (some b) clock (seen.push e.born) clock) } := by
      have : w1.heap[it]? = some (.mapIter (some b) clock seen clock) := by rcases hw1 with rfl | rfl <;> exact hit
      simp [setObj, Sem.run, this]
    simp only [Result.andThen_ok, hget, Sem.run_bind, hset, Sem.run_pure, hk2, hv2]
    have hsat : Sat G { w1 with heap := w1.heap.setIfInBounds it (.mapIter (some b) clock (seen.push e.born) clock) } (Hf x2.1) := by
      have hw1' : Sat G w1 (pts it (.mapIter (some b) clock seen clock) :: pts b (.map entries clock) :: H.eraseIdx i) := by
        have h7 : Sat G w (pts it (.mapIter (some b) clock seen clock) :: pts b (.map entries clock) :: H.eraseIdx i) := by
          refine ⟨hT, hO, hU', hh, hsub, ?_⟩
          have h8 : star (star (pts b (.map entries clock)) (pts it (.mapIter (some b) clock seen clock))) (Sep (H.eraseIdx i)) hh := ⟨h1, h2, ⟨h3, h4, hb1, hit1, hdj2, hj2⟩, hB, hdj, hj⟩
          exact star_swap (star_assoc' h8)
        rcases hw1 with rfl | rfl
        · exact h7
        · exact h7.draw _
      have h9 := hw1'.set0 (o' := .mapIter (some b) clock (seen.push e.born) clock)
      have h10 := putP_eq i _ _ H [] (Hf x2.1) (hp _) hi
      refine (h9.ent ?_).ent (Ent.perm (by simpa using h10.symm))
      refine (Ent.perm (List.Perm.swap _ _ _)).trans ?_
      refine Ent.fold (B := [_, _]) fun h hs => ⟨h, sub.refl h, entries, clock, seen.push e.born, ⟨entries, clock, rfl, hes, hnd, hborn, hbn⟩, ?_, ?_, ?_⟩
      · intro i2 e2 y2 he2 hy2
        have hold2 := hseen i2 e2 y2 he2 hy2
        simp only [Array.contains_eq_mem, Array.mem_push, decide_eq_true_eq, List.mem_cons] at hold2 ⊢
        constructor
        · rintro (h | h)
          · exact .inr (hold2.1 h)
          · left
            -- the borns are one, so the entries are
            have h11 : (entries.toList.map (·.born))[i2]? = (entries.toList.map (·.born))[i3]? := by simp only [List.getElem?_map, he2, hi3, Option.map_some, h]
            have h12 : i2 = i3 := (List.getElem?_inj (by
              have : i2 < entries.toList.length := by
                rcases Nat.lt_or_ge i2 entries.toList.length with h | h
                · exact h
                · rw [List.getElem?_eq_none h] at he2; cases he2
              rw [List.length_map]; exact this) hbn).1 h11
            subst h12
            rw [hx3] at hy2; cases hy2; rfl
        · rintro (h | h)
          · right
            have h11 : (es.map (·.1))[i2]? = (es.map (·.1))[i3]? := by simp only [List.getElem?_map, hy2, hx3, Option.map_some, h]
            have h12 : i2 = i3 := (List.getElem?_inj (by
              have : i2 < es.length := by
                rcases Nat.lt_or_ge i2 es.length with h | h
                · exact h
                · rw [List.getElem?_eq_none h] at hy2; cases hy2
              rw [List.length_map]; exact this) hnd).1 h11
            subst h12
            rw [hi3] at he2; cases he2; rfl
          · exact .inl (hold2.2 h)
      · intro key hkey
        simp only [List.head?_cons, Option.some.injEq] at hkey
        subst hkey
        exact ⟨e, by simpa using hmemE1, hk2, by simp⟩
      · exact star_mono (fun _ h => h) (fun _ h => Sep_one h) hs
    exact ⟨hS _ _ hsat, hgoal _ _ (ha.put hd _) hsat (hS _ _ hsat)⟩
end
end Go.SL
