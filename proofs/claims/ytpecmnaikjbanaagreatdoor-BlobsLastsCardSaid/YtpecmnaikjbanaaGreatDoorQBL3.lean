/- Texts of one claim, joined: EngF, EngG, EngH, EngI, EngWd, EngDg, Da, EngJ, EngM. -/
import Derived.Test.YtpecmnaikjbanaaGreatDoorQBL2
import Derived.DeepKeys
/- Engine, part F: maps. Nothing here names a program. -/
set_option linter.unusedSimpArgs false
set_option linter.unusedVariables false
set_option linter.unusedSectionVars false
namespace Go.SL
structure KeyOk (P : Program) (kt : TypeId) {κ : Type} (kv : κ → Value) : Prop where
 inj : ∀ a b, kv a = kv b → a = b
 check : ∀ (e : Bool) (k : κ) (w : World), (Instr.checkKey e 10000 kt (kv k)).run P w = .ok () w
 find : ∀ (k : κ) (l : List MapEntry) (ks : List κ) (w : World), l.map (·.key) = ks.map kv →
  ∃ r, (Instr.findKey kt (kv k) l).run P w = .ok r w ∧
   ((r = none ∧ k ∉ ks) ∨ ∃ i e, r = some (i, e.val) ∧ l[i]? = some e ∧ ks[i]? = some k ∧ ∀ j, j < i → ks[j]? ≠ some k)
 bits : ∀ k, Instr.sameBits 10000 (kv k) (kv k) = true
theorem findNow_spec {κ : Type} {kv : κ → Value} {kind : TypeDesc} [DecidableEq κ] (hs : ∀ a b, Instr.sameNow kind (kv a) (kv b) = some (decide (a = b))) (k : κ) :
  ∀ (l : List MapEntry) (ks : List κ) (o : Nat), l.map (·.key) = ks.map kv →
   ∃ r, Instr.findNow kind (kv k) l o = some r ∧ ((r = none ∧ k ∉ ks) ∨ ∃ i e, r = some (o + i, e.val) ∧ l[i]? = some e ∧ ks[i]? = some k ∧ ∀ j, j < i → ks[j]? ≠ some k) := by
 intro l
 induction l with
 | nil =>
  intro ks o h
  have : ks = [] := by simpa using h.symm
  subst this
  exact ⟨none, rfl, .inl ⟨rfl, by simp⟩⟩
 | cons e l ih =>
  intro ks o h
  cases ks with
  | nil => simp at h
  | cons c ks =>
   simp only [List.map_cons, List.cons.injEq] at h
   obtain ⟨h1, h2⟩ := h
   simp only [Instr.findNow, h1, hs]
   by_cases hkc : k = c
   ·subst hkc
    refine ⟨_, by simp; rfl, .inr ⟨0, e, by simp, by simp, by simp, fun j hj => absurd hj (by omega)⟩⟩
   ·obtain ⟨r, hr, hcase⟩ := ih ks (o + 1) h2
    refine ⟨r, by simp [hkc, hr], ?_⟩
    rcases hcase with ⟨rfl, hn⟩ | ⟨i, e', rfl, hi, hk, hj⟩
    ·exact .inl ⟨rfl, by simp [hkc, hn]⟩
    ·refine .inr ⟨i + 1, e', by congr 2; omega, by simpa using hi, by simpa using hk, fun j hj' => ?_⟩
     cases j with
     | zero => simp; exact fun h => hkc h.symm
     | succ j => simpa using hj j (by omega)
theorem keyOk_of_same {P : Program} {kt : TypeId} {kind : TypeDesc} {κ : Type} [DecidableEq κ] {kv : κ → Value} (hu : P.underlying kt = some kind) (hs : ∀ a b, Instr.sameNow kind (kv a) (kv b) = some (decide (a = b)))
  (hk : (match kind with | .interface _ => false | .array _ _ => false | .struct _ => false | _ => true) = true)
  (inj : ∀ a b, kv a = kv b → a = b) (bits : ∀ k, Instr.sameBits 10000 (kv k) (kv k) = true) : KeyOk P kt kv where
 inj := inj
 check := fun e k w => by
  unfold Instr.checkKey
  simp only [Sem.run_bind, underlying, run_program, Result.andThen_ok, hu, Sem.run_pure]
  cases kind <;> simp_all
 find := fun k l ks w h => by
  obtain ⟨r, hr, hcase⟩ := findNow_spec hs k l ks 0 h
  refine ⟨r, ?_, ?_⟩
  ·simp only [Instr.findKey, Sem.run_bind, underlying, run_program, Result.andThen_ok, hu, Sem.run_pure, hr]
  ·rcases hcase with h | ⟨i, e, hr, hi, hk, hj⟩
   ·exact .inl h
   ·exact .inr ⟨i, e, by rw [hr]; simp, hi, hk, hj⟩
 bits := bits
theorem beqB (a b : ByteArray) : (a == b) = decide (a = b) := by
 rw [Bool.eq_iff_iff]
 simp only [decide_eq_true_eq]
 constructor
 ·intro h
  have h1 : (a.data == b.data) = true := h
  cases a; cases b; simp at h1; rw [h1]
 ·rintro rfl
  show (a.data == a.data) = true
  simp
theorem map_eraseIdx' {α β : Type} (g : α → β) (l : List α) (i : Nat) : (l.eraseIdx i).map g = (l.map g).eraseIdx i := by
 induction l generalizing i with
 | nil => rfl
 | cons x l ih => cases i <;> simp [ih]
theorem keyStr {P : Program} {kt : TypeId} (hu : P.underlying kt = some .string) : KeyOk P kt Value.string :=
 keyOk_of_same hu (fun a b => by simp only [Instr.sameNow, beqB]) rfl (fun a b h => by cases h; rfl) (fun k => by simp [Instr.sameBits, beqB])
/-! ## a map as a list of keys and values -/
section
variable {κ : Type} [DecidableEq κ]
def alook (es : List (κ × Value)) (k : κ) : Option Value := (es.find? fun x => decide (x.1 = k)).map (·.2)
def aset (es : List (κ × Value)) (k : κ) (v : Value) : List (κ × Value) := if k ∈ es.map (·.1) then es.map (fun x => if x.1 = k then (k, v) else x) else es ++ [(k, v)]
def adel (es : List (κ × Value)) (k : κ) : List (κ × Value) := es.filter fun x => !decide (x.1 = k)
theorem alook_none {es : List (κ × Value)} {k : κ} : alook es k = none ↔ k ∉ es.map (·.1) := by
 unfold alook
 simp only [Option.map_eq_none_iff, List.find?_eq_none, decide_eq_true_eq, List.mem_map, not_exists, not_and]
theorem alook_get {es : List (κ × Value)} {k : κ} {i : Nat} {v : Value} (hi : es[i]? = some (k, v)) (hj : ∀ j, j < i → (es.map (·.1))[j]? ≠ some k) : alook es k = some v := by
 induction es generalizing i with
 | nil => simp at hi
 | cons x es ih =>
  cases i with
  | zero => simp at hi; subst hi; simp [alook]
  | succ i =>
   simp at hi
   have h0 := hj 0 (by omega)
   simp at h0
   have := ih hi (fun j hj' => by have := hj (j + 1) (by omega); simpa using this)
   unfold alook at this ⊢
   simp [h0, this]
def mapW (kv : κ → Value) (o : Obj) (es : List (κ × Value)) : Prop :=
 ∃ entries clock, o = .map entries clock ∧ entries.toList.map (fun e => (e.key, e.val)) = es.map (fun x => (kv x.1, x.2)) ∧ (es.map (·.1)).Nodup ∧ (∀ e ∈ entries.toList, e.born < clock) ∧ (entries.toList.map (·.born)).Nodup
def mapR (kv : κ → Value) (b : Nat) (es : List (κ × Value)) : HP := fun h => ∃ o, mapW kv o es ∧ pts b o h
theorem Sat.getMap {G : Glob} {w : World} {H : List HP} {kv : κ → Value} {b : Nat} {es : List (κ × Value)} (hs : Sat G w H) {i : Nat} (hi : getL H i = some (mapR kv b es)) : ∃ o, mapW kv o es ∧ w.heap[b]? = some o := by
 obtain ⟨h, hh, o, ho, hp⟩ := hs.getA hi
 exact ⟨o, ho, hh b o (by rw [hp b]; simp)⟩
theorem mapR_new (kv : κ → Value) (b : Nat) : ∀ h, pts b (.map #[] 0) h → mapR kv b [] h := fun h hp => ⟨_, ⟨#[], 0, rfl, rfl, by simp, by simp, by simp⟩, hp⟩
theorem mapR_nodup {kv : κ → Value} {b : Nat} {es : List (κ × Value)} {h : Hp} (hm : mapR kv b es h) : (es.map (·.1)).Nodup := by
 obtain ⟨o, ⟨_, _, _, _, hn, _⟩, _⟩ := hm; exact hn
theorem Sat.putMap {G : Glob} {w : World} {H H' : List HP} {kv : κ → Value} {b : Nat} {es es' : List (κ × Value)} {o' : Obj} {i : Nat} (hs : Sat G w H) (hi : getL H i = some (mapR kv b es)) (hm : mapW kv o' es') (hp : putP i (mapR kv b es') H [] = .mk H') :
  Sat G { w with heap := w.heap.setIfInBounds b o' } H' := by
 have hs1 := hs.ent (Ent.perm (perm_of_get (by rw [← getL_eq]; exact hi)))
 obtain ⟨hT, hO, hU', hh, hsub, h1, h2, ⟨o, ho, hpt⟩, hB, hd, hj⟩ := hs1
 have hs2 : Sat G w (pts b o :: H.eraseIdx i) := ⟨hT, hO, hU', hh, hsub, h1, h2, hpt, hB, hd, hj⟩
 have h3 := hs2.set0 (o' := o')
 have h4 := putP_eq i _ _ H [] H' hp hi
 refine (h3.ent ?_).ent (Ent.perm (by simpa using h4.symm))
 exact Ent.fold (B := [_]) fun h hs => ⟨h, sub.refl h, o', hm, Sep_one hs⟩
end
section
variable {P : Program} {U : Tr} [hU : TabOk P U] {f : FuncId} {n : Nat} {R : Ending → World → Prop} {G : Glob} {k : List Item} {L : Lst} {H H' : List HP} {S : World → Prop} {all : Array Oper} {rest : Pl}
 {ty : TypeId} {pos : String} {af : Array Edge} {gd : Option (Nat × Bool)} {m : Bool} {d : Tmp}
variable {κ : Type} [DecidableEq κ] {kv : κ → Value}
theorem run_getObj_map {w : World} {b : Nat} {es : Array MapEntry} {c : Nat} (h : w.heap[b]? = some (.map es c)) : (getObj b).run P w = .ok (.map es c) w := by
 simp [getObj, Sem.run, h]
theorem run_lookup {t kt et : TypeId} {ty' te : Ty} {z : Value} {b : Nat} {es : List (κ × Value)} {key : κ} {o : Obj} {w : World} (c : Bool) (hko : KeyOk P kt kv) (ht : U.get t = some ty') (hu : ty'.und = .map kt et) (he : U.get et = some te) (hz : te.info.zero = some z)
  (hm : mapW kv o es) (hb : w.heap[b]? = some o) :
  (Instr.lookup t (.map (some b)) (kv key) c).run P w = .ok (if c then .tuple #[(alook es key).getD z, .bool (alook es key).isSome] else (alook es key).getD z) w := by
 obtain ⟨entries, clock, rfl, hes, hnd, hborn, hbn⟩ := hm
 have hks : entries.toList.map (·.key) = (es.map (·.1)).map kv := by
  have := congrArg (List.map (·.1)) hes
  simpa [Function.comp_def] using this
 obtain ⟨r, hr, hcase⟩ := hko.find key entries.toList (es.map (·.1)) w hks
 unfold Instr.lookup
 simp only [Sem.run_bind, run_underlying ht, Result.andThen_ok, hu, run_getObj_map hb, Sem.run_pure, hko.check, hr]
 rcases hcase with ⟨rfl, hn⟩ | ⟨i, e, rfl, hi, hk, hj⟩
 ·have := alook_none.2 hn
  simp only [Sem.run_bind, run_zeroValue he hz, Result.andThen_ok, Sem.run_pure, this]
  cases c <;> rfl
 ·have hv : es[i]? = some (key, e.val) := by
   have h1 := congrArg (·[i]?) hes
   simp only [List.getElem?_map, hi, Option.map_some] at h1
   simp only [List.getElem?_map] at hk
   cases hx : es[i]? with
   | none => rw [hx] at hk; cases hk
   | some x =>
    rw [hx] at h1 hk
    simp only [Option.map_some, Option.some.injEq, Prod.mk.injEq] at h1 hk
    rw [← hk, h1.2]
  have := alook_get hv hj
  simp only [Sem.run_pure, Result.andThen_ok, this]
  cases c <;> rfl
theorem J_lookup {t kt et : TypeId} {ty' te : Ty} {z : Value} {x y : Operand} {b : Nat} {es : List (κ × Value)} {key : κ} {kval : Value} (i : Nat) (hd : Nat.blt d n = true) (hko : KeyOk P kt kv)
  (hx : ev L x = some (.map (some b))) (hy : ev L y = some kval) (hkv : kval = kv key) (ht : U.get t = some ty') (hu : ty'.und = .map kt et) (he : U.get et = some te) (hz : te.info.zero = some z) (hi : getL H i = some (mapR kv b es))
  (h : J P f n R G S all rest k ((d, (alook es key).getD z) :: L) H) : J P f n R G S all (.cons false true ⟨some d, .lookup t x y false, ty, pos, af, gd⟩ rest) k L H :=
 J_read hd (fun a w ha hw => by
  obtain ⟨o, hm, hb⟩ := hw.getMap hi
  subst hkv
  simp [execOp, ha.ev hx, ha.ev hy, run_lookup (P := P) (key := key) false hko ht hu he hz hm hb]) h
theorem J_lookupOkC {t kt et : TypeId} {ty' te : Ty} {z : Value} {x y : Operand} {b : Nat} {es : List (κ × Value)} {key : κ} {kval : Value} (hd : Nat.blt d n = true) (hko : KeyOk P kt kv)
  (hx : ev L x = some (.map (some b))) (hy : ev L y = some kval) (hkv : kval = kv key) (ht : U.get t = some ty') (hu : ty'.und = .map kt et) (he : U.get et = some te) (hz : te.info.zero = some z) (hi : ∀ w, Sat G w H → ∃ o, mapW kv o es ∧ w.heap[b]? = some o)
  (h : J P f n R G S all rest k ((d, .tuple #[(alook es key).getD z, .bool (alook es key).isSome]) :: L) H) : J P f n R G S all (.cons false true ⟨some d, .lookup t x y true, ty, pos, af, gd⟩ rest) k L H :=
 J_read hd (fun a w ha hw => by
  obtain ⟨o, hm, hb⟩ := hi w hw
  subst hkv
  simp [execOp, ha.ev hx, ha.ev hy, run_lookup (P := P) (key := key) true hko ht hu he hz hm hb]) h
theorem J_lookupOkS {t kt et : TypeId} {ty' te : Ty} {z : Value} {x y : Operand} {b : Nat} {es : List (κ × Value)} {key : κ} {kval : Value} (hd : Nat.blt d n = true) (hko : KeyOk P kt kv)
  (hx : ev L x = some (.map (some b))) (hy : ev L y = some kval) (hkv : kval = kv key) (ht : U.get t = some ty') (hu : ty'.und = .map kt et) (he : U.get et = some te) (hz : te.info.zero = some z) (hi : ∀ w, S w → ∃ o, mapW kv o es ∧ w.heap[b]? = some o)
  (h : J P f n R G S all rest k ((d, .tuple #[(alook es key).getD z, .bool (alook es key).isSome]) :: L) H) : J P f n R G S all (.cons true true ⟨some d, .lookup t x y true, ty, pos, af, gd⟩ rest) k L H :=
 J_readS hd (fun a w ha hw => by
  obtain ⟨o, hm, hb⟩ := hi w hw
  subst hkv
  simp [execOp, ha.ev hx, ha.ev hy, run_lookup (P := P) (key := key) true hko ht hu he hz hm hb]) h
/-! ## writing -/
theorem mapW_set {entries : Array MapEntry} {clock : Nat} {es : List (κ × Value)} {key : κ} {v : Value} {i : Nat} {e : MapEntry} (hm : mapW kv (.map entries clock) es) (hi : entries.toList[i]? = some e) (hk : (es.map (·.1))[i]? = some key) :
  mapW kv (.map (entries.modify i fun e => { e with key := kv key, val := v }) clock) (aset es key v) := by
 obtain ⟨entries', clock', heq, hes, hnd, hborn, hbn⟩ := hm
 cases heq
 have hmem : key ∈ es.map (·.1) := List.mem_of_getElem? hk
 have hmod : (entries.modify i fun e => { e with key := kv key, val := v }).toList = entries.toList.modify i (fun e => { e with key := kv key, val := v }) := by simp
 refine ⟨_, clock, rfl, ?_, ?_, ?_, ?_⟩
 ·rw [hmod]
  apply List.ext_getElem?
  intro j
  have hj := congrArg (·[j]?) hes
  simp only [List.getElem?_map] at hj
  simp only [aset, hmem, if_true, List.getElem?_map, List.getElem?_modify]
  cases hx : es[j]? with
  | none =>
   rw [hx] at hj
   simp at hj
   simp [hj]
  | some x =>
   rw [hx] at hj
   simp only [Option.map_some] at hj
   cases hy : entries.toList[j]? with
   | none => rw [hy] at hj; cases hj
   | some y =>
    rw [hy] at hj
    simp only [Option.map_some, Option.some.injEq, Prod.mk.injEq] at hj
    by_cases hij : i = j
    ·subst hij
     simp only [List.getElem?_map, hx, Option.map_some, Option.some.injEq] at hk
     simp [hk]
    ·have hne : x.1 ≠ key := fun hxk => by
      have h1 : (es.map (·.1))[j]? = some key := by simp [hx, hxk]
      exact hij ((List.getElem?_inj (by
       rcases Nat.lt_or_ge i (es.map (·.1)).length with h | h
       ·exact h
       ·rw [List.getElem?_eq_none h] at hk; cases hk) hnd).1 (hk.trans h1.symm))
     simp [hij, hne, hj.1, hj.2]
 ·have : (aset es key v).map (·.1) = es.map (·.1) := by
   simp only [aset, hmem, if_true, List.map_map]
   apply List.map_congr_left
   intro x _
   simp only [Function.comp]
   split
   ·rename_i h; exact h.symm
   ·rfl
  rw [this]; exact hnd
 ·intro e' he'
  rw [hmod] at he'
  obtain ⟨j, hj⟩ := List.getElem?_of_mem he'
  rw [List.getElem?_modify] at hj
  cases hy : entries.toList[j]? with
  | none => rw [hy] at hj; cases hj
  | some y =>
   rw [hy] at hj
   have := hborn y (List.mem_of_getElem? hy)
   simp at hj
   split at hj <;> (subst hj; exact this)
 ·rw [hmod]
  have : (entries.toList.modify i (fun e => { e with key := kv key, val := v })).map (·.born) = entries.toList.map (·.born) := by
   apply List.ext_getElem?
   intro j
   simp only [List.getElem?_map, List.getElem?_modify]
   cases hy : entries.toList[j]? with
   | none => rfl
   | some y => simp only [Option.map_some]; split <;> rfl
  rw [this]; exact hbn
theorem mapW_push {entries : Array MapEntry} {clock : Nat} {es : List (κ × Value)} {key : κ} {v : Value} (hm : mapW kv (.map entries clock) es) (hn : key ∉ es.map (·.1)) :
  mapW kv (.map (entries.push { key := kv key, val := v, born := clock }) (clock + 1)) (aset es key v) := by
 obtain ⟨entries', clock', heq, hes, hnd, hborn, hbn⟩ := hm
 cases heq
 refine ⟨_, clock + 1, rfl, ?_, ?_, ?_, ?_⟩
 ·simp [aset, hn, hes]
 ·simp only [aset, hn, if_false, List.map_append, List.map_cons, List.map_nil]
  rw [List.nodup_append]
  exact ⟨hnd, by simp, fun a ha b hb => by simp at hb; subst hb; rintro rfl; exact hn ha⟩
 ·intro e he
  simp only [Array.toList_push, List.mem_append, List.mem_singleton] at he
  rcases he with he | rfl
  ·have := hborn e he; omega
  ·simp
 ·simp only [Array.toList_push, List.map_append, List.map_cons, List.map_nil]
  rw [List.nodup_append]
  refine ⟨hbn, by simp, fun a ha b hb => ?_⟩
  simp at hb
  subst hb
  obtain ⟨e, he, rfl⟩ := List.mem_map.1 ha
  have := hborn e he
  omega
theorem run_update {t kt et : TypeId} {ty' : Ty} {b : Nat} {es : List (κ × Value)} {key : κ} {v : Value} {w : World} {i : Nat} (hko : KeyOk P kt kv) (ht : U.get t = some ty') (hu : ty'.und = .map kt et) (hw : Sat G w H) (hi : getL H i = some (mapR kv b es)) (hp : putP i (mapR kv b (aset es key v)) H [] = .mk H') :
  ∃ w', (Instr.mapUpdate t (.map (some b)) (kv key) v).run P w = .ok () w' ∧ Sat G w' H' := by
 obtain ⟨o, hm, hb⟩ := hw.getMap hi
 have hm0 := hm
 obtain ⟨entries, clock, rfl, hes, hnd, hborn, hbn⟩ := hm
 have hks : entries.toList.map (·.key) = (es.map (·.1)).map kv := by
  have := congrArg (List.map (·.1)) hes
  simpa [Function.comp_def] using this
 obtain ⟨r, hr, hcase⟩ := hko.find key entries.toList (es.map (·.1)) w hks
 have hset : ∀ o', (setObj b o').run P w = .ok () { w with heap := w.heap.setIfInBounds b o' } := fun o' => by simp [setObj, Sem.run, hb]
 rcases hcase with ⟨rfl, hn⟩ | ⟨j, e, rfl, hj, hk, hlt⟩
 ·refine ⟨_, ?_, hw.putMap hi (mapW_push (v := v) hm0 hn) hp⟩
  unfold Instr.mapUpdate
  simp only [Sem.run_bind, run_underlying ht, Result.andThen_ok, hu, run_getObj_map hb, hko.check, hr, hset]
 ·refine ⟨_, ?_, hw.putMap hi (mapW_set (v := v) hm0 hj hk) hp⟩
  have hek : e.key = kv key := by
   have h1 := congrArg (·[j]?) hks
   simp only [List.getElem?_map, hj, Option.map_some] at h1 hk
   rw [hk] at h1
   simpa using h1
  have hj' : entries[j]? = some e := by simpa using hj
  unfold Instr.mapUpdate
  simp only [Sem.run_bind, run_underlying ht, Result.andThen_ok, hu, run_getObj_map hb, hko.check, hr, hj', Option.map_some, Option.getD_some, hek, Instr.keyThatStays, hko.bits, if_true, Sem.run_pure, hset]
theorem J_mapUpdate {t kt et : TypeId} {ty' : Ty} {x y v0 : Operand} {b : Nat} {es : List (κ × Value)} {key : κ} {kval v : Value} (i : Nat) (hko : KeyOk P kt kv)
  (hS : ∀ w, Sat G w H' → Sx rest S w)
  (hx : ev L x = some (.map (some b))) (hy : ev L y = some kval) (hkv : kval = kv key) (hv : ev L v0 = some v) (ht : U.get t = some ty') (hu : ty'.und = .map kt et) (hi : getL H i = some (mapR kv b es)) (hp : putP i (mapR kv b (aset es key v)) H [] = .mk H')
  (h : J P f n R G S all rest k L H') : J P f n R G S all (.cons false true ⟨none, .mapUpdate t x y v0, ty, pos, af, gd⟩ rest) k L H := by
 refine J_act0 (fun H1 => H1 = H') (fun a w ha hw => ?_) (fun H1 w e hw => hS w (e ▸ hw)) (fun H1 e => e ▸ h)
 subst hkv
 obtain ⟨w', hr, hs⟩ := run_update (P := P) hko ht hu hw hi hp
 exact ⟨w', H', by simp [execOp, ha.ev hx, ha.ev hy, ha.ev hv, hr], rfl, hs⟩
theorem filter_erase {es : List (κ × Value)} {key : κ} : ∀ {i : Nat}, (es.map (·.1)).Nodup → (es.map (·.1))[i]? = some key → adel es key = es.eraseIdx i := by
 induction es with
 | nil => intro i _ h; simp at h
 | cons x es ih =>
  intro i hnd hk
  simp only [List.map_cons, List.nodup_cons] at hnd
  cases i with
  | zero =>
   simp at hk
   subst hk
   simp only [adel, decide_true, Bool.not_true, List.filter_cons, Bool.false_eq_true, if_false, List.eraseIdx_cons_zero]
   apply List.filter_eq_self.2
   intro y hy
   simp only [Bool.not_eq_true', decide_eq_false_iff_not]
   intro e
   exact hnd.1 (List.mem_map.2 ⟨y, hy, e⟩)
  | succ i =>
   simp at hk
   have hne : x.1 ≠ key := fun e => hnd.1 (by rw [e]; exact List.mem_of_getElem? (by simpa using hk))
   have := ih hnd.2 (i := i) (by simpa using hk)
   simp only [adel] at this ⊢
   simp [hne, this]
theorem adel_none {es : List (κ × Value)} {key : κ} (h : key ∉ es.map (·.1)) : adel es key = es := by
 apply List.filter_eq_self.2
 intro y hy
 simp only [Bool.not_eq_true', decide_eq_false_iff_not]
 intro e
 exact h (List.mem_map.2 ⟨y, hy, e⟩)
theorem mapW_del {entries : Array MapEntry} {clock : Nat} {es : List (κ × Value)} {key : κ} {i : Nat} {e : MapEntry} (hm : mapW kv (.map entries clock) es) (hi : entries.toList[i]? = some e) (hk : (es.map (·.1))[i]? = some key) :
  mapW kv (.map (entries.eraseIdxIfInBounds i) clock) (adel es key) := by
 obtain ⟨entries', clock', heq, hes, hnd, hborn, hbn⟩ := hm
 cases heq
 have hel : (entries.eraseIdxIfInBounds i).toList = entries.toList.eraseIdx i := by simp
 rw [filter_erase hnd hk]
 refine ⟨_, clock, rfl, ?_, ?_, ?_, ?_⟩
 ·rw [hel, map_eraseIdx', map_eraseIdx', hes]
 ·rw [map_eraseIdx']; exact hnd.eraseIdx _
 ·intro e' he'; rw [hel] at he'; exact hborn e' (List.mem_of_mem_eraseIdx he')
 ·rw [hel, map_eraseIdx']; exact hbn.eraseIdx _
theorem J_delete {t kt et : TypeId} {ty' : Ty} {x y : Operand} {t2 : TypeId} {b : Nat} {es : List (κ × Value)} {key : κ} {kval : Value} (i : Nat) (hko : KeyOk P kt kv)
  (hS : ∀ w, Sat G w H' → Sx rest S w)
  (hx : ev L x = some (.map (some b))) (hy : ev L y = some kval) (hkv : kval = kv key) (ht : U.get t = some ty') (hu : ty'.und = .map kt et) (hi : getL H i = some (mapR kv b es)) (hp : putP i (mapR kv b (adel es key)) H [] = .mk H')
  (h : J P f n R G S all rest k L H') : J P f n R G S all (.cons false true ⟨none, .call { callee := .builtin .delete, args := #[x, y], argTypes := #[t, t2] }, ty, pos, af, gd⟩ rest) k L H := by
 intro a w ha hw _
 subst hkv
 obtain ⟨o, hm, hb⟩ := hw.getMap hi
 have hm0 := hm
 obtain ⟨entries, clock, rfl, hes, hnd, hborn, hbn⟩ := hm
 have hks : entries.toList.map (·.key) = (es.map (·.1)).map kv := by
  have := congrArg (List.map (·.1)) hes
  simpa [Function.comp_def] using this
 obtain ⟨r, hr, hcase⟩ := hko.find key entries.toList (es.map (·.1)) w hks
 have hset : ∀ o', (setObj b o').run P w = .ok () { w with heap := w.heap.setIfInBounds b o' } := fun o' => by simp [setObj, Sem.run, hb]
 refine .inl ⟨.inl rfl, .inr ⟨rfl, ?_⟩⟩
 rcases hcase with ⟨rfl, hn⟩ | ⟨j, e, rfl, hj, hk, hlt⟩
 ·have hs := hw.putMap hi (o' := .map entries clock) (es' := adel es key) (by rw [adel_none hn]; exact hm0) hp
  have : (execOp a.eval ⟨none, .call { callee := .builtin .delete, args := #[x, y], argTypes := #[t, t2] }, ty, pos, af, gd⟩).run P w = .ok (.value (.tuple #[])) { w with heap := w.heap.setIfInBounds b (.map entries clock) } := by
   simp only [execOp, resolve, invoke, builtin, Sem.run_bind, Sem.run_pure, Result.andThen_ok, List.map_toArray, List.map_cons, List.map_nil, ha.ev hx, ha.ev hy, Builtin.delete_, List.getElem?_toArray, List.getElem?_cons_zero, List.getElem?_cons_succ,
    run_underlying ht, hu, run_getObj_map hb, hko.check, hr, hset]
  exact wpIn_value this ⟨hS _ hs, h a _ ha hs (hS _ hs)⟩
 ·have hs := hw.putMap hi (mapW_del hm0 hj hk) hp
  have : (execOp a.eval ⟨none, .call { callee := .builtin .delete, args := #[x, y], argTypes := #[t, t2] }, ty, pos, af, gd⟩).run P w = .ok (.value (.tuple #[])) { w with heap := w.heap.setIfInBounds b (.map (entries.eraseIdxIfInBounds j) clock) } := by
   simp only [execOp, resolve, invoke, builtin, Sem.run_bind, Sem.run_pure, Result.andThen_ok, List.map_toArray, List.map_cons, List.map_nil, ha.ev hx, ha.ev hy, Builtin.delete_, List.getElem?_toArray, List.getElem?_cons_zero, List.getElem?_cons_succ,
    run_underlying ht, hu, run_getObj_map hb, hko.check, hr, hset]
  exact wpIn_value this ⟨hS _ hs, h a _ ha hs (hS _ hs)⟩
theorem run_lenMap {t kt et : TypeId} {ty' : Ty} {b : Nat} {es : List (κ × Value)} {o : Obj} {w : World} {rty : TypeId} (ht : U.get t = some ty') (hu : ty'.und = .map kt et) (hm : mapW kv o es) (hb : w.heap[b]? = some o) :
  (Builtin.len_ #[t] rty #[.map (some b)]).run P w = .ok (.int .i64 es.length) w := by
 obtain ⟨entries, clock, rfl, hes, hnd, hborn, hbn⟩ := hm
 have hl : entries.size = es.length := by have := congrArg List.length hes; simpa using this
 simp [Builtin.len_, run_underlying ht, hu, run_getObj_map hb, goInt, hl]
theorem J_lenMapC {t kt et : TypeId} {ty' : Ty} {x : Operand} {b : Nat} {es : List (κ × Value)} (hd : Nat.blt d n = true)
  (hx : ev L x = some (.map (some b))) (ht : U.get t = some ty') (hu : ty'.und = .map kt et) (hi : ∀ w, Sat G w H → ∃ o, mapW kv o es ∧ w.heap[b]? = some o)
  (h : J P f n R G S all rest k ((d, .int .i64 es.length) :: L) H) : J P f n R G S all (.cons false true ⟨some d, .call { callee := .builtin .len, args := #[x], argTypes := #[t] }, ty, pos, af, gd⟩ rest) k L H :=
 J_read hd (fun a w ha hw => by
  obtain ⟨o, hm, hb⟩ := hi w hw
  simp [execOp, resolve, invoke, builtin, ha.ev hx, run_lenMap (P := P) ht hu hm hb]) h
/-! ## ranging over a map that nobody turns -/
def mapI (kv : κ → Value) (b it : Nat) (es : List (κ × Value)) (done : List κ) : HP := fun h =>
 ∃ entries clock seen, mapW kv (.map entries clock) es ∧ (∀ (i : Nat) (e : MapEntry) (x : κ × Value), entries.toList[i]? = some e → es[i]? = some x → (seen.contains e.born = true ↔ x.1 ∈ done)) ∧
  (∀ key, done.head? = some key → ∃ e ∈ entries.toList, e.key = kv key ∧ seen.back? = some e.born) ∧
  star (pts b (.map entries clock)) (pts it (.mapIter (some b) clock seen clock)) h
theorem mapI_mapR {b it : Nat} {es : List (κ × Value)} {done : List κ} : ∀ h, mapI kv b it es done h → ∃ h', sub h' h ∧ mapR kv b es h' := by
 rintro h ⟨entries, clock, seen, hm, _, _, hs⟩
 obtain ⟨h', s, hp⟩ := star_left hs
 exact ⟨h', s, _, hm, hp⟩
theorem J_range {t kt et : TypeId} {ty' : Ty} {x : Operand} {b : Nat} {es : List (κ × Value)} (i : Nat) (hd : Nat.blt d n = true)
  (hx : ev L x = some (.map (some b))) (ht : U.get t = some ty') (hu : ty'.und = .map kt et) (hi : getL H i = some (mapR kv b es)) {Hf : Nat → List HP} (hp : ∀ it, putP i (mapI kv b it es []) H [] = .mk (Hf it))
  (hS : ∀ it w, Sat G w (Hf it) → Sx rest S w)
  (h : ∀ it, J P f n R G S all rest k ((d, .pointer (some ⟨it, 0, none⟩)) :: L) (Hf it)) : J P f n R G S all (.cons false true ⟨some d, .range t x, ty, pos, af, gd⟩ rest) k L H := by
 refine J_act hd (fun u H1 => ∃ it, u = .pointer (some ⟨it, 0, none⟩) ∧ H1 = Hf it) (fun a w ha hw => ?_) ?_ ?_
 ·obtain ⟨o, hm, hb⟩ := hw.getMap hi
  have hs1 := hw.ent (Ent.perm (perm_of_get (by rw [← getL_eq]; exact hi)))
  obtain ⟨hT, hO, hU', hh, hsub, h1, h2, ⟨o', ho', hpt⟩, hB, hdj, hj⟩ := hs1
  have hoo : o' = o := by
   have : w.heap[b]? = some o' := hsub b o' (by rw [hj b, hpt b]; simp)
   rw [hb] at this; cases this; rfl
  subst hoo
  have hs2 : Sat G w (pts b o' :: H.eraseIdx i) := ⟨hT, hO, hU', hh, hsub, h1, h2, hpt, hB, hdj, hj⟩
  obtain ⟨entries, clock, rfl, hrest⟩ := hm
  refine ⟨_, { w with heap := w.heap.push (.mapIter (some b) clock #[] clock) }, Hf w.heap.size, ?_, ⟨w.heap.size, rfl, rfl⟩, ?_⟩
  ·simp only [execOp, ha.ev hx, Instr.range, Sem.run_bind, run_underlying ht, Result.andThen_ok, hu, run_getObj_map hb, Sem.run_pure, run_newObj]
  ·have h3 := hs2.alloc (.mapIter (some b) clock #[] clock)
   have h4 := putP_eq i _ _ H [] (Hf w.heap.size) (hp _) hi
   refine (h3.ent ?_).ent (Ent.perm (by simpa using h4.symm))
   refine (Ent.perm (List.Perm.swap _ _ _)).trans ?_
   refine Ent.fold (B := [_, _]) fun h hs => ⟨h, sub.refl h, entries, clock, #[], ⟨entries, clock, rfl, hrest⟩, fun i e x _ _ => by simp, by simp, ?_⟩
   exact star_mono (fun _ h => h) (fun _ h => Sep_one h) hs
 ·rintro u H1 w ⟨it, rfl, rfl⟩ hw; exact hS it w hw
 ·rintro u H1 ⟨it, rfl, rfl⟩; exact h it
theorem J_entry {x : Operand} {b it : Nat} {es : List (κ × Value)} {done : List κ} {key : κ} {v : Value} (i : Nat) (hd : Nat.blt d n = true) (hinj : ∀ a b, kv a = kv b → a = b)
  (hx : ev L x = some (.pointer (some ⟨it, 0, none⟩))) (hi : getL H i = some (mapI kv b it es (key :: done))) (hv : (key, v) ∈ es)
  (h : J P f n R G S all rest k ((d, .tuple #[kv key, v]) :: L) H) : J P f n R G S all (.cons false true ⟨some d, .entry x, ty, pos, af, gd⟩ rest) k L H :=
 J_read hd (fun a w ha hw => by
  have hs1 := hw.ent (Ent.perm (perm_of_get (by rw [← getL_eq]; exact hi)))
  obtain ⟨hT, hO, hU', hh, hsub, h1, h2, hA, hB, hdj, hj⟩ := hs1
  obtain ⟨entries, clock, seen, hm, hseen, hlast, h3, h4, hb1, hit1, hdj2, hj2⟩ := hA
  have hb : w.heap[b]? = some (.map entries clock) := hsub b _ (by rw [hj b, hj2 b, hb1 b]; simp)
  have hit : w.heap[it]? = some (.mapIter (some b) clock seen clock) := by
   refine hsub it _ ?_
   rw [hj it, hj2 it, hit1 it]
   rcases hdj2 it with e | e
   ·rw [e]; simp
   ·rw [hit1 it] at e; simp at e
  obtain ⟨entries', clock', heq, hes, hnd, hborn, hbn⟩ := hm
  cases heq
  have hgm := run_getObj_map (P := P) hb
  have hgi : (getObj it).run P w = .ok (.mapIter (some b) clock seen clock) w := by simp [getObj, Sem.run, hit]
  obtain ⟨e, he, hek, hback⟩ := hlast key rfl
  -- the cell's value
  obtain ⟨j, hj3⟩ := List.getElem?_of_mem he
  have hev : e.val = v := by
   have h6 := congrArg (·[j]?) hes
   simp only [List.getElem?_map, hj3, Option.map_some] at h6
   cases hx2 : es[j]? with
   | none => rw [hx2] at h6; cases h6
   | some x2 =>
    rw [hx2] at h6
    simp only [Option.map_some, Option.some.injEq, Prod.mk.injEq] at h6
    have hkk : x2.1 = key := hinj _ _ (h6.1.symm.trans hek)
    obtain ⟨j2, hj2'⟩ := List.getElem?_of_mem hv
    have h11 : (es.map (·.1))[j]? = (es.map (·.1))[j2]? := by simp only [List.getElem?_map, hx2, hj2', Option.map_some, hkk]
    have h12 : j = j2 := (List.getElem?_inj (by
     have : j < es.length := by
      rcases Nat.lt_or_ge j es.length with h | h
      ·exact h
      ·rw [List.getElem?_eq_none h] at hx2; cases hx2
     rw [List.length_map]; exact this) hnd).1 h11
    subst h12
    rw [hx2] at hj2'
    cases hj2'
    exact h6.2
  have hfind : entries.find? (fun x => x.born == e.born) = some e := by
   rw [← Array.find?_toList]
   cases hf : entries.toList.find? (fun x => x.born == e.born) with
   | none => have := List.find?_eq_none.1 hf e he; simp at this
   | some e2 =>
    have h1 := List.find?_some hf
    have h2 := List.mem_of_find?_eq_some hf
    simp only [beq_iff_eq] at h1
    obtain ⟨j2, hj2'⟩ := List.getElem?_of_mem h2
    have h11 : (entries.toList.map (·.born))[j2]? = (entries.toList.map (·.born))[j]? := by simp only [List.getElem?_map, hj3, hj2', Option.map_some, h1]
    have h12 : j2 = j := (List.getElem?_inj (by
     have : j2 < entries.toList.length := by
      rcases Nat.lt_or_ge j2 entries.toList.length with h | h
      ·exact h
      ·rw [List.getElem?_eq_none h] at hj2'; cases hj2'
     rw [List.length_map]; exact this) hbn).1 h11
    subst h12
    rw [hj3] at hj2'
    cases hj2'
    rfl
  simp only [execOp, ha.ev hx, Instr.entry, Sem.run_bind, hgi, hgm, Result.andThen_ok, hback, hfind, Sem.run_pure, hek, hev, bne_self_eq_false, Bool.false_eq_true, if_false]) h
theorem J_next {x : Operand} {b it : Nat} {es : List (κ × Value)} {done : List κ} (i : Nat) (hd : Nat.blt d n = true) (hinj : ∀ a b, kv a = kv b → a = b)
  (hx : ev L x = some (.pointer (some ⟨it, 0, none⟩))) (hi : getL H i = some (mapI kv b it es done)) {Hf : κ → List HP} (hp : ∀ key, putP i (mapI kv b it es (key :: done)) H [] = .mk (Hf key))
  (hS0 : ∀ w, Sat G w H → Sx rest S w) (hS : ∀ key w, Sat G w (Hf key) → Sx rest S w)
  (hend : (∀ y ∈ es, y.1 ∈ done) → J P f n R G S all rest k ((d, .tuple #[.bool false]) :: L) H)
  (hgo : ∀ key v, (key, v) ∈ es → key ∉ done → J P f n R G S all rest k ((d, .tuple #[.bool true, kv key, v]) :: L) (Hf key)) :
  J P f n R G S all (.cons false true ⟨some d, .next x false, ty, pos, af, gd⟩ rest) k L H := by
 intro a w ha hw _
 refine .inl ⟨.inl rfl, .inr ⟨rfl, ?_⟩⟩
 have hs1 := hw.ent (Ent.perm (perm_of_get (by rw [← getL_eq]; exact hi)))
 obtain ⟨hT, hO, hU', hh, hsub, h1, h2, hA, hB, hdj, hj⟩ := hs1
 obtain ⟨entries, clock, seen, hm, hseen, _, h3, h4, hb1, hit1, hdj2, hj2⟩ := hA
 have hb : w.heap[b]? = some (.map entries clock) := hsub b _ (by rw [hj b, hj2 b, hb1 b]; simp)
 have hit : w.heap[it]? = some (.mapIter (some b) clock seen clock) := by
  refine hsub it _ ?_
  rw [hj it, hj2 it, hit1 it]
  rcases hdj2 it with e | e
  ·rw [e]; simp
  ·rw [hit1 it] at e; simp at e
 obtain ⟨entries', clock', heq, hes, hnd, hborn, hbn⟩ := hm
 cases heq
 have hgm := run_getObj_map (P := P) hb
 have hgi : (getObj it).run P w = .ok (.mapIter (some b) clock seen clock) w := by simp [getObj, Sem.run, hit]
 have hall : (!seen.isEmpty && !entries.isEmpty && entries.all (·.born ≥ clock)) = false := by
  cases he : entries.isEmpty with
  | true => simp
  | false =>
   have hne : entries.toList ≠ [] := by simpa [Array.isEmpty_iff] using he
   obtain ⟨e, l, hel⟩ := List.exists_cons_of_ne_nil hne
   have h5 := hborn e (by rw [hel]; simp)
   have : entries.all (fun x => decide (x.born ≥ clock)) = false := by
    rw [← Array.all_toList, hel]
    simp
    intro h; omega
   rw [this]; simp
 have hold : ∀ (l : Array MapEntry), (∀ e ∈ l.toList, e ∈ entries.toList) → l.filter (·.born < clock) = l ∧ l.filter (·.born ≥ clock) = #[] := by
  intro l hl
  constructor
  ·apply Array.filter_eq_self.2
   intro e he; simpa using hborn e (hl e (by simpa using he))
  ·apply Array.filter_eq_empty_iff.2
   intro e he; have := hborn e (hl e (by simpa using he)); simp; omega
 have hleft := hold (entries.filter fun e => !seen.contains e.born) (fun e he => by simp at he; simpa using he.1)
 -- the entry that comes, if one does
 have hmemx : ∀ e, e ∈ entries.toList → ∃ (j : Nat) (x : κ × Value), entries.toList[j]? = some e ∧ es[j]? = some x ∧ x ∈ es ∧ e.key = kv x.1 ∧ e.val = x.2 ∧ (seen.contains e.born = true ↔ x.1 ∈ done) := by
  intro e he
  obtain ⟨j, hj3⟩ := List.getElem?_of_mem he
  have h6 := congrArg (·[j]?) hes
  simp only [List.getElem?_map, hj3, Option.map_some] at h6
  cases hx2 : es[j]? with
  | none => rw [hx2] at h6; cases h6
  | some x2 =>
   rw [hx2] at h6
   simp only [Option.map_some, Option.some.injEq, Prod.mk.injEq] at h6
   exact ⟨j, x2, hj3, hx2, List.mem_of_getElem? hx2, h6.1, h6.2, hseen j e x2 hj3 hx2⟩
 have hxmem : ∀ x, x ∈ es → ∃ e, e ∈ entries.toList ∧ e.key = kv x.1 ∧ (seen.contains e.born = true ↔ x.1 ∈ done) := by
  intro x2 hx2
  obtain ⟨j, hj3⟩ := List.getElem?_of_mem hx2
  have h6 := congrArg (·[j]?) hes
  simp only [List.getElem?_map, hj3, Option.map_some] at h6
  cases he : entries.toList[j]? with
  | none => rw [he] at h6; cases h6
  | some e =>
   rw [he] at h6
   simp only [Option.map_some, Option.some.injEq, Prod.mk.injEq] at h6
   exact ⟨e, List.mem_of_getElem? he, h6.1, hseen j e x2 he hj3⟩
 have hrun0 : (execOp a.eval ⟨some d, .next x false, ty, pos, af, gd⟩) = (do let v ← Instr.next (.pointer (some ⟨it, 0, none⟩)) false ty; pure (.value v)) := by simp only [execOp, ha.ev hx]
 refine wpIn_other (fun c hc => by cases hc) rfl ?_
 rw [hrun0]
 simp only [Sem.run_bind, Instr.next, hgi, Result.andThen_ok, hgm, hall, Bool.false_eq_true, if_false, hleft.1, hleft.2, Array.append_empty]
 by_cases hemp : (entries.filter fun e => !seen.contains e.born).isEmpty = true
 ·have he : (entries.filter fun e => !seen.contains e.born) = #[] := Array.isEmpty_iff.1 hemp
  have hdone : ∀ y ∈ es, y.1 ∈ done := by
   intro y hy
   obtain ⟨e, hem, _, hiff⟩ := hxmem y hy
   apply hiff.1
   cases hc : seen.contains e.born with
   | true => rfl
   | false =>
    have : e ∈ (entries.filter fun e => !seen.contains e.born) := by simp only [Array.mem_filter]; exact ⟨by simpa using hem, by rw [hc]; rfl⟩
    rw [he] at this; simp at this
  have := hend hdone
  simp only [he, Array.isEmpty_empty, if_true, Array.map_empty, Array.append_empty, Sem.run_bind, run_choose]
  simp only [Question.forced, List.size_toArray, List.length_singleton, Nat.le_refl, decide_true, if_true, Result.andThen_ok, List.getElem?_toArray, List.getElem?_cons_zero, Sem.run_pure]
  exact ⟨hS0 w hw, this _ w (ha.put hd _) hw (hS0 w hw)⟩
 ·have hemp' : (entries.filter fun e => !seen.contains e.born).isEmpty = false := by simpa using hemp
  obtain ⟨q, w1, hq, hw1, hchoice⟩ : ∃ q w1, q < (entries.filter fun e => !seen.contains e.born).size ∧ (w1 = w ∨ w1 = w.drew) ∧
    (choose (.mapNext ((entries.filter fun e => !seen.contains e.born).map some).size)).run P w = .ok q w1 := by
   have hpos : 0 < (entries.filter fun e => !seen.contains e.born).size := by
    rcases Nat.eq_zero_or_pos (entries.filter fun e => !seen.contains e.born).size with h | h
    ·have := Array.eq_empty_of_size_eq_zero h; rw [this] at hemp'; simp at hemp'
    ·exact h
   simp only [run_choose, Array.size_map]
   by_cases hf : (Question.mapNext (entries.filter fun e => !seen.contains e.born).size).forced = true
   ·exact ⟨0, w, hpos, .inl rfl, by rw [if_pos hf]⟩
   ·exact ⟨_, w.drew, Nat.mod_lt _ hpos, .inr rfl, by rw [if_neg hf]; rfl⟩
  have hget : ((entries.filter fun e => !seen.contains e.born).map some)[q]? = some (some (entries.filter fun e => !seen.contains e.born)[q]) := by simp [hq]
  generalize hE : (entries.filter fun e => !seen.contains e.born)[q] = e at hget
  have hmemE : e ∈ (entries.filter fun e => !seen.contains e.born) := by rw [← hE]; exact Array.getElem_mem hq
  simp only [Array.mem_filter] at hmemE
  obtain ⟨hmemE1, hmemE2⟩ := hmemE
  obtain ⟨i3, x2, hi3, hx3, hx2, hk2, hv2, hiff2⟩ := hmemx e (by simpa using hmemE1)
  have hnd2 : x2.1 ∉ done := fun h => by have := hiff2.2 h; rw [this] at hmemE2; cases hmemE2
  have hgoal := hgo x2.1 x2.2 hx2 hnd2
  simp only [hemp', Bool.false_eq_true, if_false, Array.empty_append, Sem.run_bind]
  rw [hchoice]
  have hset : (setObj it (.mapIter (some b) clock (seen.push e.born) clock)).run P w1 = .ok () { w1 with heap := w1.heap.setIfInBounds it (.mapIter (some b) clock (seen.push e.born) clock) } := by
   have : w1.heap[it]? = some (.mapIter (some b) clock seen clock) := by rcases hw1 with rfl | rfl <;> exact hit
   simp [setObj, Sem.run, this]
  simp only [Result.andThen_ok, hget, Sem.run_bind, hset, Sem.run_pure, hk2, hv2]
  have hsat : Sat G { w1 with heap := w1.heap.setIfInBounds it (.mapIter (some b) clock (seen.push e.born) clock) } (Hf x2.1) := by
   have hw1' : Sat G w1 (pts it (.mapIter (some b) clock seen clock) :: pts b (.map entries clock) :: H.eraseIdx i) := by
    have h7 : Sat G w (pts it (.mapIter (some b) clock seen clock) :: pts b (.map entries clock) :: H.eraseIdx i) := by
     refine ⟨hT, hO, hU', hh, hsub, ?_⟩
     have h8 : star (star (pts b (.map entries clock)) (pts it (.mapIter (some b) clock seen clock))) (Sep (H.eraseIdx i)) hh := ⟨h1, h2, ⟨h3, h4, hb1, hit1, hdj2, hj2⟩, hB, hdj, hj⟩
     exact star_swap (star_assoc' h8)
    rcases hw1 with rfl | rfl
    ·exact h7
    ·exact h7.draw _
   have h9 := hw1'.set0 (o' := .mapIter (some b) clock (seen.push e.born) clock)
   have h10 := putP_eq i _ _ H [] (Hf x2.1) (hp _) hi
   refine (h9.ent ?_).ent (Ent.perm (by simpa using h10.symm))
   refine (Ent.perm (List.Perm.swap _ _ _)).trans ?_
   refine Ent.fold (B := [_, _]) fun h hs => ⟨h, sub.refl h, entries, clock, seen.push e.born, ⟨entries, clock, rfl, hes, hnd, hborn, hbn⟩, ?_, ?_, ?_⟩
   ·intro i2 e2 y2 he2 hy2
    have hold2 := hseen i2 e2 y2 he2 hy2
    simp only [Array.contains_eq_mem, Array.mem_push, decide_eq_true_eq, List.mem_cons] at hold2 ⊢
    constructor
    ·rintro (h | h)
     ·exact .inr (hold2.1 h)
     ·left
      -- the borns are one, so the entries are
      have h11 : (entries.toList.map (·.born))[i2]? = (entries.toList.map (·.born))[i3]? := by simp only [List.getElem?_map, he2, hi3, Option.map_some, h]
      have h12 : i2 = i3 := (List.getElem?_inj (by
       have : i2 < entries.toList.length := by
        rcases Nat.lt_or_ge i2 entries.toList.length with h | h
        ·exact h
        ·rw [List.getElem?_eq_none h] at he2; cases he2
       rw [List.length_map]; exact this) hbn).1 h11
      subst h12
      rw [hx3] at hy2; cases hy2; rfl
    ·rintro (h | h)
     ·right
      have h11 : (es.map (·.1))[i2]? = (es.map (·.1))[i3]? := by simp only [List.getElem?_map, hy2, hx3, Option.map_some, h]
      have h12 : i2 = i3 := (List.getElem?_inj (by
       have : i2 < es.length := by
        rcases Nat.lt_or_ge i2 es.length with h | h
        ·exact h
        ·rw [List.getElem?_eq_none h] at hy2; cases hy2
       rw [List.length_map]; exact this) hnd).1 h11
      subst h12
      rw [hi3] at he2; cases he2; rfl
     ·exact .inl (hold2.2 h)
   ·intro key hkey
    simp only [List.head?_cons, Option.some.injEq] at hkey
    subst hkey
    exact ⟨e, by simpa using hmemE1, hk2, by simp⟩
   ·exact star_mono (fun _ h => h) (fun _ h => Sep_one h) hs
  exact ⟨hS _ _ hsat, hgoal _ _ (ha.put hd _) hsat (hS _ _ hsat)⟩
end
end Go.SL
/- Engine, part G: functions without a Go body, interfaces, addresses compared, clear. Nothing here names a program. -/
namespace Go.SL
section
variable {P : Program} {U : Tr} [hU : TabOk P U] {f : FuncId} {n : Nat} {R : Ending → World → Prop} {G : Glob} {k : List Item} {L : Lst} {H H' : List HP} {S : World → Prop} {all : Array Oper} {rest : Pl}
 {ty : TypeId} {pos : String} {af : Array Edge} {gd : Option (Nat × Bool)} {m : Bool} {d : Tmp}
theorem run_extern {g : FuncId} {fn : Func} {e : Array Value → Sem Value} {vs : Array Value} {w : World} (hf : P.funcs[g]? = some fn) (hb : fn.body = none) (hn : (fn.name == "runtime.NumGoroutine") = false) (hnx : (Extern.findNext fn).isNone = true) (he : Extern.find fn = some e) :
  (callFunc g vs).run P w = ((e vs).run P w).andThen fun v w' => .ok (.value v) w' := by
 have hnx' : Extern.findNext fn = none := Option.isNone_iff_eq_none.1 hnx
 simp only [callFunc, Sem.run_bind, run_program, Result.andThen_ok, hf, hn, hb, Option.isNone_none, Bool.false_eq_true, if_false, if_true, run_mark, hnx', he, Sem.run_pure]
theorem J_mapsClone {κ : Type} [DecidableEq κ] {kv : κ → Value} {g : FuncId} {fn : Func} {args : Array Operand} {tys : Array TypeId} {t : TypeId} {b : Nat} {es : List (κ × Value)} (i : Nat) (hd : Nat.blt d n = true)
  (hf : P.funcs[g]? = some fn) (hb : fn.body = none) (hn : (fn.name == "runtime.NumGoroutine") = false) (hnx : (Extern.findNext fn).isNone = true) (he : Extern.find fn = some Extern.MapsClone.clone)
  (hargs : evs L args.toList [] = .mk [.iface t (.map (some b))]) (hi : getL H i = some (mapR kv b es))
  (hS : ∀ b' w, Sat G w (mapR kv b' es :: H) → Sx rest S w)
  (h : ∀ b', J P f n R G S all rest k ((d, .iface t (.map (some b'))) :: L) (mapR kv b' es :: H)) :
  J P f n R G S all (.cons false true ⟨some d, .call { callee := .value (.func g), args := args, argTypes := tys }, ty, pos, af, gd⟩ rest) k L H := by
 refine J_act hd (fun u H1 => ∃ b', u = .iface t (.map (some b')) ∧ H1 = mapR kv b' es :: H) (fun a w ha hw => ?_) ?_ ?_
 ·obtain ⟨o, hm, hb'⟩ := hw.getMap hi
  have hm0 := hm
  obtain ⟨entries, clock, rfl, hes, hnd, hborn, hbn⟩ := hm
  refine ⟨_, { w with heap := w.heap.push (.map entries clock) }, _, ?_, ⟨w.heap.size, rfl, rfl⟩, ?_⟩
  ·simp only [execOp, resolve, Sem.run_bind, Act.eval, Deferred.ofValue, Sem.run_pure, Result.andThen_ok, invoke]
   rw [show (args.map fun x => a.eval x) = args.map a.eval from rfl] at *
   have hav := evs_arr ha _ _ hargs
   rw [show Array.map a.eval args = #[.iface t (.map (some b))] from hav]
   simp only [Array.empty_append, Array.append_empty]
   rw [run_extern hf hb hn hnx he]
   have hcl : Extern.MapsClone.clone #[.iface t (.map (some b))] = (getObj b >>= fun o => match o with
     | .map entries clock => newObj (.map entries clock) >>= fun r => pure (.iface t (.map (some r)))
     | _ => stuck "maps.clone: a map expected") := rfl
   rw [hcl]
   simp only [Sem.run_bind, run_getObj_map hb', Result.andThen_ok, run_newObj, Sem.run_pure]
  ·have h3 := hw.alloc (.map entries clock)
   exact h3.ent (Ent.fold (B := [_]) fun h hs => ⟨h, sub.refl h, _, hm0, Sep_one hs⟩)
 ·rintro u H1 w ⟨b', rfl, rfl⟩ hw; exact hS b' w hw
 ·rintro u H1 ⟨b', rfl, rfl⟩; exact h b'
theorem J_assert {x : Operand} {xt t : TypeId} {ty' : Ty} {v : Value} (hd : Nat.blt d n = true) (hx : ev L x = some (.iface t v)) (ht : U.get t = some ty') (hni : (match ty'.und with | .interface _ => false | _ => true) = true)
  (h : J P f n R G S all rest k ((d, v) :: L) H) : J P f n R G S all (.cons m true ⟨some d, .typeAssert x xt t false, ty, pos, af, gd⟩ rest) k L H :=
 J_pure hd (fun a ha w => by
  simp only [execOp, ha.ev hx, Instr.typeAssert, Sem.run_bind, run_underlying ht, Result.andThen_ok]
  cases hu : ty'.und <;> simp_all) h
theorem J_mkIface {x : Operand} {t : TypeId} {ty' : Ty} {v : Value} (hd : Nat.blt d n = true) (hx : ev L x = some v) (ht : U.get t = some ty') (hni : (match ty'.und with | .interface _ => false | _ => true) = true)
  (h : J P f n R G S all rest k ((d, .iface t v) :: L) H) : J P f n R G S all (.cons m true ⟨some d, .makeInterface t x, ty, pos, af, gd⟩ rest) k L H :=
 J_pure hd (fun a ha w => by
  simp only [execOp, ha.ev hx, Instr.makeInterface, Sem.run_bind, run_underlying ht, Result.andThen_ok]
  cases hu : ty'.und <;> simp_all) h
/-! ## addresses compared -/
def Row (w : World) (b : Nat) : Prop := ∃ l e, w.heap[b]? = some (cl l e)
theorem run_samePtr {b1 o1 b2 o2 : Nat} {w : World} (h1 : Row w b1) (h2 : Row w b2) : (sameAddr ⟨b1, o1, none⟩ ⟨b2, o2, none⟩).run P w = .ok (decide (b1 = b2 ∧ o1 = o2)) w := by
 obtain ⟨l1, e1, hb1⟩ := h1
 obtain ⟨l2, e2, hb2⟩ := h2
 unfold sameAddr
 by_cases hb : b1 = b2
 ·subst hb
  simp only [beq_self_eq_true, if_true, Sem.run_pure, true_and]
  congr 1
  rw [Bool.eq_iff_iff]; simp
 ·have hne : (b1 == b2) = false := by simpa using hb
  have f1 : ∀ o, w.frozen? ⟨b1, o, none⟩ = false := fun o => frozen_of_block hb1
  have f2 : ∀ o, w.frozen? ⟨b2, o, none⟩ = false := fun o => frozen_of_block hb2
  have s1 : w.shape? b1 = some (e1, l1.length) := by simp [World.shape?, hb1, cl]
  have s2 : w.shape? b2 = some (e2, l2.length) := by simp [World.shape?, hb2, cl]
  simp [hne, f1, f2, noView, viewAt, s1, s2, mayBeOne, stringish, hb]
theorem J_eqPtr {x y : Operand} {t yt el : TypeId} {ty' te : Ty} {b1 o1 b2 o2 : Nat} (hd : Nat.blt d n = true)
  (hx : ev L x = some (.pointer (some ⟨b1, o1, none⟩))) (hy : ev L y = some (.pointer (some ⟨b2, o2, none⟩))) (ht : U.get t = some ty') (hu : ty'.und = .pointer el) (he : U.get el = some te) (hsz : Nat.beq te.info.size 0 = false)
  (h1 : ∀ w, Sat G w H → Row w b1) (h2 : ∀ w, Sat G w H → Row w b2)
  (h : J P f n R G S all rest k ((d, .bool (decide (b1 = b2 ∧ o1 = o2))) :: L) H) : J P f n R G S all (.cons false true ⟨some d, .binOp .eql t x y yt, ty, pos, af, gd⟩ rest) k L H :=
 J_read hd (fun a w ha hw => by
  have hr := run_samePtr (P := P) (o1 := o1) (o2 := o2) (h1 w hw) (h2 w hw)
  have hne : te.info.size ≠ 0 := Nat.ne_of_beq_eq_false hsz
  have heq : (Op.equal t (.pointer (some ⟨b1, o1, none⟩)) (.pointer (some ⟨b2, o2, none⟩))).run P w = .ok (decide (b1 = b2 ∧ o1 = o2)) w := by
   unfold Op.equal Op.maxDepth Op.equalIn
   simp only [Sem.run_bind, run_underlying ht, Result.andThen_ok, hu, run_sizeOf he, ne_eq, hne, not_false_eq_true, if_true, hr]
  have hg : (eqGuard .eql t x y (.pointer (some ⟨b1, o1, none⟩)) (.pointer (some ⟨b2, o2, none⟩))).run P w = .ok () w := by simp [eqGuard]
  have hb : (binOp .eql t (.pointer (some ⟨b1, o1, none⟩)) (.pointer (some ⟨b2, o2, none⟩))).run P w = .ok (.bool (decide (b1 = b2 ∧ o1 = o2))) w := by
   simp only [binOp, Sem.run_bind, heq, Result.andThen_ok, Sem.run_pure]
  simp only [execOp, ha.ev hx, ha.ev hy, Sem.run_bind, hg, hb, Result.andThen_ok, Sem.run_pure]) h
/-! ## clear -/
theorem J_clear {x : Operand} {t elem : TypeId} {ty' te : Ty} {z : Value} {b o nn cap : Nat} {l l' : List Value} {e : TypeId} (i : Nat)
  (hS : ∀ w, Sat G w H' → Sx rest S w)
  (hx : ev L x = some (.slice (some ⟨b, o, none⟩) nn cap)) (ht : U.get t = some ty') (hu : ty'.und = .slice elem) (he : U.get elem = some te) (hz : te.info.zero = some z) (hzs : Nat.beq (cellsL z).length te.info.size = true) (hone : allOne (cellsL z) = true)
  (hi : getL H i = some (pts b (cl l e))) (hfit : o + nn * te.info.size ≤ l.length) (hl' : l' = l.take o ++ (List.replicate nn (cellsL z)).flatten ++ l.drop (o + nn * te.info.size)) (hp : putP i (pts b (cl l' e)) H [] = .mk H')
  (h : J P f n R G S all rest k L H') : J P f n R G S all (.cons false true ⟨none, .call { callee := .builtin .clear, args := #[x], argTypes := #[t] }, ty, pos, af, gd⟩ rest) k L H := by
 intro a w ha hw _
 have hzs' : (cellsL z).length = te.info.size := Nat.eq_of_beq_eq_true hzs
 have hcells : (Builtin.zeroCells z.cells nn).toList = (List.replicate nn (cellsL z)).flatten := by
  have hcs : z.cells.size = (cellsL z).length := by rw [cellsL_eq]; simp
  unfold Builtin.zeroCells
  simp only [Array.toList_map, Array.toList_range, hcs]
  rw [cellsL_eq]
  induction nn with
  | zero => simp
  | succ nn ih =>
   clear ih
   rw [List.replicate_succ', List.flatten_append]
   have hgen : ∀ q, List.map (fun i => (cellsL z).toArray[i % (cellsL z).length]!) (List.range (q * (cellsL z).length)) = (List.replicate q (cellsL z)).flatten := by
    intro q
    induction q with
    | zero => simp
    | succ q ih =>
     rw [List.replicate_succ', List.flatten_append, ← ih, Nat.succ_mul, List.range_add, List.map_append]
     congr 1
     simp only [List.map_map, List.flatten_cons, List.flatten_nil, List.append_nil]
     apply List.ext_getElem?
     intro j
     by_cases hj : j < (cellsL z).length
     ·simp only [List.getElem?_map, List.getElem?_range hj, Option.map_some, Function.comp]
      rw [Nat.mul_comm, Nat.mul_add_mod, Nat.mod_eq_of_lt hj]
      simp [hj]
     ·rw [List.getElem?_eq_none (by simp; omega), List.getElem?_eq_none (by omega)]
   have := hgen (nn + 1)
   rw [List.replicate_succ', List.flatten_append] at this
   exact this
 have hlen : ((List.replicate nn (cellsL z)).flatten).length = nn * te.info.size := by simp [hzs']
 have hst := run_storeCells (P := P) ((List.replicate nn (cellsL z)).flatten) 0 o l w (hw.getP hi) (by rw [hlen]; simpa using hfit) (fun u hu => by
  simp only [List.mem_flatten, List.mem_replicate] at hu
  obtain ⟨l2, ⟨_, rfl⟩, hu⟩ := hu
  exact allOne_spec hone u hu)
 simp only [Nat.add_zero, hlen, ← hl'] at hst
 have hs := hw.put hi hp
 refine .inl ⟨.inl rfl, .inr ⟨rfl, ?_⟩⟩
 by_cases h0 : nn = 0
 ·subst h0
  have hll : l' = l := by rw [hl']; simp
  subst hll
  have hss : Sat G w H' := by
   have hb := hw.getP hi
   have hlt : b < w.heap.size := by
    rcases Nat.lt_or_ge b w.heap.size with h' | h'
    ·exact h'
    ·rw [Array.getElem?_eq_none h'] at hb; cases hb
   have hb' : w.heap[b] = cl l' e := by rw [Array.getElem?_eq_getElem hlt] at hb; exact Option.some.inj hb
   have : w.heap.setIfInBounds b (cl l' e) = w.heap := by rw [← hb']; simp [Array.setIfInBounds, hlt]
   rw [this] at hs; exact hs
  have : (execOp a.eval ⟨none, .call { callee := .builtin .clear, args := #[x], argTypes := #[t] }, ty, pos, af, gd⟩).run P w = .ok (.value (.tuple #[])) w := by
   simp [execOp, resolve, invoke, builtin, ha.ev hx, Builtin.clear_, run_underlying ht, hu]
  exact wpIn_value this ⟨hS _ hss, h a _ ha hss (hS _ hss)⟩
 ·have : (execOp a.eval ⟨none, .call { callee := .builtin .clear, args := #[x], argTypes := #[t] }, ty, pos, af, gd⟩).run P w = .ok (.value (.tuple #[])) { w with heap := w.heap.setIfInBounds b (cl l' e) } := by
   obtain ⟨q, rfl⟩ : ∃ q, nn = q + 1 := ⟨nn - 1, by omega⟩
   simp only [execOp, resolve, invoke, builtin, Sem.run_bind, Sem.run_pure, Result.andThen_ok, List.map_toArray, List.map_cons, List.map_nil, ha.ev hx, Builtin.clear_, List.getElem?_toArray, List.getElem?_cons_zero, run_underlying ht, hu, run_zeroValue he hz, hcells, hst]
  exact wpIn_value this ⟨hS _ hs, h a _ ha hs (hS _ hs)⟩
end
end Go.SL
/- Engine, part H: small things for walks over slices and bytes. Nothing here names a program. -/
namespace Go.SL
def idxI {α : Type} (p : α → Bool) : List α → Int
 | [] => -1
 | x :: l => if p x then 0 else (if idxI p l < 0 then -1 else idxI p l + 1)
theorem idxI_ge {α : Type} (p : α → Bool) (l : List α) : -1 ≤ idxI p l := by
 induction l with
 | nil => simp [idxI]
 | cons x l ih => simp only [idxI]; split; omega; split <;> omega
theorem idxI_none {α : Type} {p : α → Bool} {l : List α} (h : ∀ x ∈ l, p x = false) : idxI p l = -1 := by
 induction l with
 | nil => rfl
 | cons x l ih => simp [idxI, h x (by simp), ih (fun y hy => h y (by simp [hy]))]
theorem idxI_some {α : Type} {p : α → Bool} {l : List α} {i : Nat} {x : α} (hi : l[i]? = some x) (hx : p x = true) (hb : ∀ y ∈ l.take i, p y = false) : idxI p l = i := by
 induction l generalizing i with
 | nil => simp at hi
 | cons y l ih =>
  cases i with
  | zero => simp at hi; subst hi; simp [idxI, hx]
  | succ i =>
   simp at hi hb
   have := ih hi hb.2
   simp only [idxI, hb.1, Bool.false_eq_true, if_false, this]
   split <;> omega
theorem idxI_neg {α : Type} {p : α → Bool} {l : List α} : idxI p l < 0 ↔ l.any p = false := by
 induction l with
 | nil => simp [idxI]
 | cons x l ih =>
  have := idxI_ge p l
  simp only [idxI, List.any_cons, Bool.or_eq_false_iff]
  cases hx : p x with
  | true => simp
  | false =>
   simp only [Bool.false_eq_true, if_false, true_and]
   rw [← ih]
   split <;> omega
theorem Vw.cell {A : HP} {b o n cap : Nat} {cs : List Value} (h : Vw A (.slice (some ⟨b, o, none⟩) n cap) n cs) {i : Nat} {c : Value} (hi : cs[i]? = some c) : ∀ h, A h → hcell h b (o + i) = some c := by
 obtain ⟨a, cap', hv, h0 | ⟨b', o', ha, hc⟩⟩ := h
 ·subst h0; simp at hi
 ·simp only [Value.slice.injEq] at hv
  obtain ⟨rfl, _, rfl⟩ := hv
  simp only [Option.some.injEq, Addr.mk.injEq, and_true] at ha
  obtain ⟨rfl, rfl⟩ := ha
  exact fun h hA => hc h hA i c hi
theorem Vw.shape {A : HP} {v : Value} {n : Nat} {cs : List Value} (h : Vw A v n cs) : ∃ a cap, v = .slice a n cap := by
 obtain ⟨a, cap, hv, _⟩ := h; exact ⟨a, cap, hv⟩
theorem Vw.some {A : HP} {v : Value} {n : Nat} {cs : List Value} (h : Vw A v n cs) (h0 : cs ≠ []) : ∃ b o cap, v = .slice (some ⟨b, o, none⟩) n cap := by
 obtain ⟨a, cap, hv, h1 | ⟨b, o, ha, hc⟩⟩ := h
 ·exact absurd h1 h0
 ·exact ⟨b, o, cap, by rw [hv, ha]⟩
theorem bV_get {bs : List UInt8} {i : Nat} {x : UInt8} (h : bs[i]? = some x) : (bV bs)[i]? = some (u8 x) := by simp [bV, h]
theorem Ent.addEmp (H : List HP) : Ent H (emp :: H) := fun h hs => ⟨h, sub.refl h, star_comm (star_emp hs)⟩
theorem Ent.join (A B : HP) (H : List HP) : Ent (A :: B :: H) (star A B :: H) := fun h hs => ⟨h, sub.refl h, star_assoc hs⟩
theorem Ent.part (A B : HP) (H : List HP) : Ent (star A B :: H) (A :: B :: H) := fun h hs => ⟨h, sub.refl h, star_assoc' hs⟩
theorem Vw.left {A B : HP} {v : Value} {n : Nat} {cs : List Value} (h : Vw A v n cs) : Vw (star A B) v n cs := h.mono fun _ hs => star_left hs
theorem Vw.right {A B : HP} {v : Value} {n : Nat} {cs : List Value} (h : Vw B v n cs) : Vw (star A B) v n cs := h.mono fun _ hs => star_right hs
theorem u8_lt (x : UInt8) : ((x.toNat : Nat) : Int) < 256 := by have := x.toNat_lt; omega
theorem u8_inj {x y : UInt8} (h : (x.toNat : Int) = y.toNat) : x = y := UInt8.toNat_inj.1 (by omega)
def All2 {α β : Type} (q : α → β → Prop) (l : List α) (r : List β) : Prop := l.length = r.length ∧ ∀ (i : Nat) (x : α) (y : β), l[i]? = Option.some x → r[i]? = Option.some y → q x y
theorem All2.nil {α β : Type} {q : α → β → Prop} : All2 q [] [] := ⟨rfl, fun i x y h => by simp at h⟩
theorem All2.snoc {α β : Type} {q : α → β → Prop} {l : List α} {r : List β} {x : α} {y : β} (h : All2 q l r) (hq : q x y) : All2 q (l ++ [x]) (r ++ [y]) := by
 obtain ⟨hl, ha⟩ := h
 refine ⟨by simp [hl], fun i u v hu hv => ?_⟩
 rcases Nat.lt_or_ge i l.length with h | h
 ·rw [List.getElem?_append_left h] at hu
  rw [List.getElem?_append_left (by omega)] at hv
  exact ha i u v hu hv
 ·rw [List.getElem?_append_right h] at hu
  rw [List.getElem?_append_right (by omega)] at hv
  have h0 : i - l.length = 0 := by
   rcases Nat.eq_zero_or_pos (i - l.length) with h | h
   ·exact h
   ·rw [List.getElem?_eq_none (by simp; omega)] at hu; cases hu
  rw [h0] at hu; rw [← hl, h0] at hv
  simp at hu hv; subst hu; subst hv; exact hq
theorem All2.cons {α β : Type} {q : α → β → Prop} {l : List α} {r : List β} {x : α} {y : β} (h : All2 q l r) (hq : q x y) : All2 q (x :: l) (y :: r) := by
 obtain ⟨hl, ha⟩ := h
 refine ⟨by simp [hl], fun i u v hu hv => ?_⟩
 cases i with
 | zero => simp at hu hv; subst hu; subst hv; exact hq
 | succ i => exact ha i u v (by simpa using hu) (by simpa using hv)
theorem All2.one {α β : Type} {q : α → β → Prop} {x : α} {y : β} (hq : q x y) : All2 q [x] [y] := All2.nil.cons hq
theorem All2.mono {α β : Type} {q q' : α → β → Prop} {l : List α} {r : List β} (h : All2 q l r) (hm : ∀ x y, q x y → q' x y) : All2 q' l r := ⟨h.1, fun i x y hx hy => hm x y (h.2 i x y hx hy)⟩
theorem All2.left {α β : Type} {q : α → β → Prop} {l : List α} {r : List β} (h : All2 q l r) {i : Nat} {x : α} (hi : l[i]? = Option.some x) : ∃ y, r[i]? = Option.some y ∧ q x y := by
 have hlt : i < l.length := by
  rcases Nat.lt_or_ge i l.length with h | h
  ·exact h
  ·rw [List.getElem?_eq_none h] at hi; cases hi
 have : i < r.length := by have := h.1; omega
 exact ⟨r[i], by simp [this], h.2 i x _ hi (by simp [this])⟩
theorem All2.right {α β : Type} {q : α → β → Prop} {l : List α} {r : List β} (h : All2 q l r) {i : Nat} {y : β} (hi : r[i]? = Option.some y) : ∃ x, l[i]? = Option.some x ∧ q x y := by
 have hlt : i < r.length := by
  rcases Nat.lt_or_ge i r.length with h | h
  ·exact h
  ·rw [List.getElem?_eq_none h] at hi; cases hi
 have : i < l.length := by have := h.1; omega
 exact ⟨l[i], by simp [this], h.2 i _ y (by simp [this]) hi⟩
theorem All2.set {α β : Type} {q : α → β → Prop} {l : List α} {r : List β} (h : All2 q l r) (i : Nat) {x : α} {y : β} (hq : q x y) : All2 q (l.set i x) (r.set i y) := by
 refine ⟨by simp [h.1], fun j u v hu hv => ?_⟩
 rw [List.getElem?_set] at hu hv
 by_cases hij : i = j
 ·rw [if_pos hij] at hu hv
  split at hu
  ·split at hv
   ·cases hu; cases hv; exact hq
   ·cases hv
  ·cases hu
 ·rw [if_neg hij] at hu hv; exact h.2 j u v hu hv
theorem Ent.to {H pre rest F T : List HP} (is : List Nat) (m : Nat) (h : pickE is [] H [] = .mk pre rest) (hd : rest.drop m = F) (ht : pre ++ F = T) : Ent H T := ht ▸ Ent.fin is m h hd
theorem slc_lift (e : TypeId) (size : Nat) (a : Option Addr) (H : List HP) : Ent H (slc e size (.slice a 0 0) 0 [] :: H) := fun h hs => ⟨h, sub.refl h, star_mono (slc_nil e size a) (fun _ h => h) (star_comm (star_emp hs))⟩
theorem slc_row (e : TypeId) (size b : Nat) (n cap : Nat) (cs junk : List Value) (H : List HP) (hl : cs.length = n * size) (hn : n ≤ cap) (hc : cap * size ≤ cs.length + junk.length) :
  Ent (pts b (cl (cs ++ junk) e) :: H) (slc e size (.slice (Option.some ⟨b, 0, none⟩) n cap) n cs :: H) :=
 Ent.fold (B := [_]) fun h hs => ⟨h, sub.refl h, hl, .inr ⟨b, 0, cap, [], junk, rfl, rfl, hn, hc, Sep_one hs⟩⟩
theorem allTake {α : Type} {q : α → Prop} {l : List α} {i : Nat} {x : α} (hb : ∀ y ∈ l.take i, q y) (hi : l[i]? = Option.some x) (hx : q x) : ∀ y ∈ l.take (i + 1), q y := by
 intro y hy
 have hlt : i < l.length := by
  rcases Nat.lt_or_ge i l.length with h | h
  ·exact h
  ·rw [List.getElem?_eq_none h] at hi; cases hi
 rw [List.take_succ_eq_append_getElem hlt] at hy
 rcases List.mem_append.1 hy with h | h
 ·exact hb y h
 ·simp at h
  have : l[i] = x := by simpa [hlt] using hi
  rw [h, this]; exact hx
theorem keep_nil {L : Lst} : ∀ t v, fget ([] : Lst) t = Option.some v → fget L t = Option.some v := fun _ _ h => by cases h
theorem keep_cons {L L' : Lst} {t0 : Nat} {v0 : Value} (h : fget L t0 = Option.some v0) (hr : ∀ t v, fget L' t = Option.some v → fget L t = Option.some v) : ∀ t v, fget ((t0, v0) :: L') t = Option.some v → fget L t = Option.some v := by
 intro t v e
 simp only [fget] at e
 cases hb : Nat.beq t0 t with
 | true => rw [← Nat.eq_of_beq_eq_true hb, h]; simpa [hb] using e
 | false => exact hr t v (by simpa [hb] using e)
theorem J_shape {P : Program} {f : FuncId} {n : Nat} {R : Ending → World → Prop} {G : Glob} {k : List Item} {L : Lst} {H : List HP} {S : World → Prop} {all : Array Oper} {rest : Pl} {e : TypeId} {size nn : Nat} {v : Value} {cs : List Value}
  (i : Nat) (hi : getL H i = some (slc e size v nn cs)) (h : ∀ a c, v = .slice a nn c → J P f n R G S all rest k L H) : J P f n R G S all rest k L H :=
 J_sat fun w hw => by
  obtain ⟨h0, _, hA⟩ := hw.getA hi
  obtain ⟨_, ⟨a, rfl, rfl, _⟩ | ⟨b, o, cap, pre, junk, rfl, _⟩⟩ := hA
  ·exact h _ _ rfl
  ·exact h _ _ rfl
theorem K_shape {P : Program} {f : FuncId} {n : Nat} {R : Ending → World → Prop} {G : Glob} {k : List Item} {L : Lst} {H : List HP} {e : TypeId} {size nn : Nat} {v : Value} {cs : List Value}
  (i : Nat) (hi : getL H i = some (slc e size v nn cs)) (h : ∀ a c, v = .slice a nn c → K P f n R G k L H) : K P f n R G k L H :=
 K_sat fun ⟨w, hw⟩ => by
  obtain ⟨h0, _, hA⟩ := hw.getA hi
  obtain ⟨_, ⟨a, rfl, rfl, _⟩ | ⟨b, o, cap, pre, junk, rfl, _⟩⟩ := hA
  ·exact h _ _ rfl
  ·exact h _ _ rfl
def wroteL (old : List UInt8) (at_ : Nat) (b : List UInt8) : List UInt8 :=
 let o := old ++ List.replicate (at_ + b.length - old.length) 0
 o.take at_ ++ b ++ o.drop (at_ + b.length)
/-! ## a slice of its own: its cells -/
section
variable {P : Program} {U : Tr} [hU : TabOk P U] {f : FuncId} {n : Nat} {R : Ending → World → Prop} {G : Glob} {k : List Item} {L : Lst} {H H' : List HP} {S : World → Prop} {all : Array Oper} {rest : Pl}
 {ty : TypeId} {pos : String} {af : Array Edge} {gd : Option (Nat × Bool)} {m : Bool} {d : Tmp}
theorem J_slcAt {e : TypeId} {sz nn : Nat} {v : Value} {cs : List Value} (i : Nat) (hi : getL H i = some (slc e sz v nn cs)) (h0 : 0 < nn)
  (h : ∀ b o c, v = .slice (some ⟨b, o, none⟩) nn c → Vw (slc e sz v nn cs) v nn cs → J P f n R G S all rest k L H) : J P f n R G S all rest k L H :=
 J_sat fun w hw => by
  obtain ⟨h1, _, hA⟩ := hw.getA hi
  have hv := Vw.of_slc e sz v nn cs ⟨h1, hA⟩
  obtain ⟨_, ⟨a, rfl, rfl, _⟩ | ⟨b, o, cap, pre, junk, rfl, _⟩⟩ := hA
  ·omega
  ·exact h _ _ _ rfl hv
theorem J_slcVw {e : TypeId} {sz nn : Nat} {v : Value} {cs : List Value} (i : Nat) (hi : getL H i = some (slc e sz v nn cs))
  (h : Vw (slc e sz v nn cs) v nn cs → J P f n R G S all rest k L H) : J P f n R G S all rest k L H :=
 J_sat fun w hw => by
  obtain ⟨h1, _, hA⟩ := hw.getA hi
  exact h (Vw.of_slc e sz v nn cs ⟨h1, hA⟩)
theorem J_loadAt {t : TypeId} {x : Operand} {b o off nn cap : Nat} {ty' : Ty} {c : Value} {A : HP} {cs : List Value} (i idx : Nat) (hd : Nat.blt d n = true) (hx : ev L x = some (.pointer (some ⟨b, off, none⟩)))
  (hi : getL H i = some A) (hv : Vw A (.slice (some ⟨b, o, none⟩) nn cap) nn cs) (hoff : off = o + idx) (hc : cs[idx]? = some c) (ht : U.get t = some ty') (hg : ty'.isAgg = false)
  (h : J P f n R G S all rest k ((d, c) :: L) H) : J P f n R G S all (.cons false true ⟨some d, .load t x, ty, pos, af, gd⟩ rest) k L H :=
 J_loadV (U := U) i hd (hoff ▸ hx) hi (hv.cell hc) ht hg h
theorem J_loadAtS {Hs : List HP} {t : TypeId} {x : Operand} {b o off nn cap : Nat} {ty' : Ty} {c : Value} {A : HP} {cs : List Value} (i idx : Nat) (hd : Nat.blt d n = true) (hx : ev L x = some (.pointer (some ⟨b, off, none⟩)))
  (hi : getL Hs i = some A) (hv : Vw A (.slice (some ⟨b, o, none⟩) nn cap) nn cs) (hoff : off = o + idx) (hc : cs[idx]? = some c) (ht : U.get t = some ty') (hg : ty'.isAgg = false)
  (h : J P f n R G (fun w => Sat G w Hs) all rest k ((d, c) :: L) H) : J P f n R G (fun w => Sat G w Hs) all (.cons true true ⟨some d, .load t x, ty, pos, af, gd⟩ rest) k L H :=
 J_loadS (U := U) hd (hoff ▸ hx) (fun w hw => by
  obtain ⟨h, hh, hA⟩ := hw.getA hi
  exact cell_of_hcell hh (hv.cell hc h hA)) ht hg h
theorem finV_mk : ∀ (acc l : List Value), finV acc l = .mk (acc.reverse ++ l)
 | [], l => rfl
 | a :: acc, l => by simp only [finV, finV_mk acc (a :: l)]; simp
theorem u8_of_int {z : Int} (h0 : 0 ≤ z) (h1 : z < 256) : ∃ y : UInt8, Value.int .u8 z = u8 y := ⟨UInt8.ofNat z.toNat, by
  simp only [u8, UInt8.toNat_ofNat']
  congr 1
  omega⟩
end
theorem Ctr.post {P : Program} {f : FuncId} {args : List Value} {Pre : List HP} {Post Post' : Value → List HP → Prop} (c : Ctr P f args Pre Post) (h : ∀ v H, Post v H → Post' v H) : Ctr P f args Pre Post' :=
 ⟨c.1, fun G w F hw => (c.2 G w F hw).mono fun e w' h' => let ⟨v, H, he, hp, hs⟩ := h'; ⟨v, H, he, h v H hp, hs⟩⟩
theorem Ctr.pre {P : Program} {f : FuncId} {args : List Value} {Pre Pre' : List HP} {Post : Value → List HP → Prop} (c : Ctr P f args Pre Post) (h : Ent Pre' Pre) : Ctr P f args Pre' Post :=
 ⟨c.1, fun G w F hw => c.2 G w F (hw.ent (Ent.append F h))⟩
structure Hold (A : Prop) : Prop where
 out : A
end Go.SL
/- Engine, part I: whole elements of a slice, loaded and stored. Nothing here names a program. -/
namespace Go.SL
section
variable {P : Program} {U : Tr} [hU : TabOk P U] {f : FuncId} {n : Nat} {R : Ending → World → Prop} {G : Glob} {k : List Item} {L : Lst} {H H' : List HP} {S : World → Prop} {all : Array Oper} {rest : Pl}
 {ty : TypeId} {pos : String} {af : Array Edge} {gd : Option (Nat × Bool)} {m : Bool} {d : Tmp}
theorem J_loadAggC {t : TypeId} {x : Operand} {b off : Nat} {ty' : Ty} {cs : List Value} (hd : Nat.blt d n = true) (hx : ev L x = some (.pointer (some ⟨b, off, none⟩)))
  (ht : U.get t = some ty') (hg : ty'.isAgg = true) (hl : Nat.beq cs.length ty'.info.size = true) (hc : ∀ w, Sat G w H → ∀ j v, cs[j]? = some v → w.cell? ⟨b, off + j, none⟩ = some v)
  (h : J P f n R G S all rest k ((d, .agg cs.toArray) :: L) H) : J P f n R G S all (.cons false true ⟨some d, .load t x, ty, pos, af, gd⟩ rest) k L H :=
 J_read hd (fun a w ha hw => by
  simp [execOp, ha.ev hx, run_loadAgg (P := P) ht hg (Nat.eq_of_beq_eq_true hl) (hc w hw)]) h
theorem J_loadElem {t : TypeId} {x : Operand} {b o off nn cap : Nat} {ty' : Ty} {es cs : List Value} {A : HP} (i idx : Nat) (hd : Nat.blt d n = true) (hx : ev L x = some (.pointer (some ⟨b, off, none⟩)))
  (hi : getL H i = some A) (hv : Vw A (.slice (some ⟨b, o, none⟩) nn cap) nn cs) (hoff : off = o + idx) (hes : ∀ j v, es[j]? = some v → cs[idx + j]? = some v) (ht : U.get t = some ty') (hg : ty'.isAgg = true) (hl : Nat.beq es.length ty'.info.size = true)
  (h : J P f n R G S all rest k ((d, .agg es.toArray) :: L) H) : J P f n R G S all (.cons false true ⟨some d, .load t x, ty, pos, af, gd⟩ rest) k L H :=
 J_loadAggC (U := U) hd hx ht hg hl (fun w hw j v hj => by
  obtain ⟨h, hh, hA⟩ := hw.getA hi
  have := hv.cell (hes j v hj) h hA
  rw [hoff, show o + idx + j = o + (idx + j) by omega]
  exact cell_of_hcell hh this) h
theorem repl_many : ∀ (l vs acc : List Value) (off : Nat), off + vs.length ≤ l.length → repl acc off l vs = .mk (acc.reverse ++ (l.take off ++ vs ++ l.drop (off + vs.length))) := by
 intro l
 induction l with
 | nil =>
  intro vs acc off h
  simp only [List.length_nil] at h
  have h1 : off = 0 := by omega
  have h2 : vs = [] := List.eq_nil_of_length_eq_zero (by omega)
  subst h1 h2
  simp [repl, finV_mk]
 | cons y l ih =>
  intro vs acc off h
  cases vs with
  | nil => cases off <;> simp [repl, finV_mk]
  | cons v vs =>
   cases off with
   | zero =>
    simp only [repl]
    rw [ih vs _ 0 (by simp at h ⊢; omega)]
    simp
   | succ off =>
    simp only [repl]
    rw [ih (v :: vs) _ off (by simp at h ⊢; omega)]
    simp [show off + 1 + (vs.length + 1) = off + (vs.length + 1) + 1 by omega]
theorem J_storeRow {t : TypeId} {x y : Operand} {b off : Nat} {ty' : Ty} {l l' : List Value} {e : TypeId} {v : Value} (i : Nat) (hS : ∀ w, Sat G w H' → Sx rest S w)
  (hx : ev L x = some (.pointer (some ⟨b, off, none⟩))) (hy : ev L y = some v) (ht : U.get t = some ty') (hsz : Nat.beq (cellsL v).length ty'.info.size = true) (hne : Nat.beq (cellsL v).length 0 = false) (hone : allOne (cellsL v) = true)
  (hi : getL H i = some (pts b (cl l e))) (hfit : off + (cellsL v).length ≤ l.length) (hl : l' = l.take off ++ cellsL v ++ l.drop (off + (cellsL v).length)) (hp : putP i (pts b (cl l' e)) H [] = .mk H')
  (h : J P f n R G S all rest k L H') : J P f n R G S all (.cons false true ⟨none, .store t x y, ty, pos, af, gd⟩ rest) k L H :=
 J_store (U := U) i hS hx hy ht hsz hne hone hi (by rw [repl_many _ _ _ _ hfit, hl]; rfl) hp h
theorem K_slcCases {e : TypeId} {sz nn : Nat} {v : Value} {cs : List Value} {H : List HP}
  (h0 : ∀ a, v = .slice a 0 0 → nn = 0 → cs = [] → K P f n R G k L H)
  (h1 : ∀ b o c pre junk, v = .slice (some ⟨b, o, none⟩) nn c → pre.length = o → nn ≤ c → c * sz ≤ cs.length + junk.length → cs.length = nn * sz → K P f n R G k L (pts b (cl (pre ++ cs ++ junk) e) :: H)) :
  K P f n R G k L (slc e sz v nn cs :: H) := by
 intro a w ha hw
 obtain ⟨t, o, u, hp, hpw, hA, hB, ⟨hl, hcase⟩, hBB, hd, he⟩ := hw
 rcases hcase with ⟨a0, hv, hn, hemp⟩ | ⟨b, oo, cap, pre, junk, hv, hpre, hn, hc, hpt⟩
 ·refine h0 a0 hv hn (List.eq_nil_of_length_eq_zero (by rw [hl, hn]; simp)) a w ha ⟨t, o, u, hB, fun x y hxy => ?_, hBB⟩
  exact hpw x y (by rw [he x]; rw [hemp x]; simpa using hxy)
 ·exact h1 b oo cap pre junk hv hpre hn hc hl a w ha ⟨t, o, u, hp, hpw, hA, hB, hpt, hBB, hd, he⟩
end
theorem chunk_get {α : Type} {g : α → List Value} {s : Nat} (hs : ∀ x, (g x).length = s) {l : List α} {i : Nat} {x : α} (h : l[i]? = some x) (j : Nat) (hj : j < s) : (l.flatMap g)[i * s + j]? = (g x)[j]? := by
 induction l generalizing i with
 | nil => simp at h
 | cons y l ih =>
  have hy := hs y
  rw [List.flatMap_cons]
  cases i with
  | zero => simp at h; subst h; rw [List.getElem?_append_left (by omega)]; simp
  | succ i =>
   simp at h
   have e : (i + 1) * s = i * s + s := by rw [Nat.add_mul, Nat.one_mul]
   rw [List.getElem?_append_right (by omega), hy, show (i + 1) * s + j - s = i * s + j by omega, ih h]
theorem chunk_len {α : Type} {g : α → List Value} {s : Nat} (hs : ∀ x, (g x).length = s) (l : List α) : (l.flatMap g).length = l.length * s := by
 induction l with
 | nil => simp
 | cons y l ih => rw [List.flatMap_cons, List.length_append, ih, hs, List.length_cons, Nat.add_mul, Nat.one_mul]; omega
theorem chunk_set {α : Type} {g : α → List Value} {s : Nat} (hs : ∀ x, (g x).length = s) {l : List α} {i : Nat} (hi : i < l.length) (x : α) : (l.set i x).flatMap g = (l.flatMap g).take (i * s) ++ g x ++ (l.flatMap g).drop (i * s + s) := by
 induction l generalizing i with
 | nil => simp at hi
 | cons y l ih =>
  have hy := hs y
  cases i with
  | zero =>
   rw [List.set_cons_zero, List.flatMap_cons, List.flatMap_cons, Nat.zero_mul, List.take_zero, List.nil_append, Nat.zero_add]
   rw [← hy, List.drop_left]
  | succ i =>
   have e : (i + 1) * s = s + i * s := by rw [Nat.add_mul, Nat.one_mul]; omega
   rw [List.set_cons_succ, List.flatMap_cons, List.flatMap_cons, ih (by simpa using hi), e, ← hy, List.take_length_add_append, show (g y).length + i * (g y).length + (g y).length = (g y).length + (i * (g y).length + (g y).length) by omega, List.drop_length_add_append]
   simp
theorem slc_closeN {e : TypeId} {sz b o c nn : Nat} {cs pre junk : List Value} (hp : pre.length = o) (hn : nn ≤ c) (hc : c * sz ≤ cs.length + junk.length) (hl : cs.length = nn * sz) (H : List HP) :
  Ent (pts b (cl (pre ++ cs ++ junk) e) :: H) (slc e sz (.slice (some ⟨b, o, none⟩) nn c) nn cs :: H) :=
 Ent.fold (B := [_]) fun h hs => ⟨h, sub.refl h, hl, .inr ⟨b, o, c, pre, junk, rfl, hp, hn, hc, Sep_one hs⟩⟩
theorem idxI_first {α : Type} {p : α → Bool} {l : List α} (h : ¬ idxI p l = -1) : ∃ (i : Nat) (x : α), idxI p l = i ∧ l[i]? = Option.some x ∧ p x = true ∧ ∀ y ∈ l.take i, p y = false := by
 have hex : ∃ (i : Nat) (x : α), l[i]? = Option.some x ∧ p x = true ∧ ∀ y ∈ l.take i, p y = false := by
  have hany : l.any p = true := by
   cases ha : l.any p with
   | true => rfl
   | false =>
    have h1 := idxI_neg.2 ha
    have h2 := idxI_ge p l
    omega
  clear h
  induction l with
  | nil => simp at hany
  | cons y l ih =>
   cases hy : p y with
   | true => exact ⟨0, y, by simp, hy, by simp⟩
   | false =>
    simp only [List.any_cons, hy, Bool.false_or] at hany
    obtain ⟨i, x, h1, h2, h3⟩ := ih hany
    refine ⟨i + 1, x, by simpa using h1, h2, fun z hz => ?_⟩
    rw [List.take_succ_cons] at hz
    rcases List.mem_cons.1 hz with rfl | hz
    ·exact hy
    ·exact h3 z hz
 obtain ⟨i, x, h1, h2, h3⟩ := hex
 exact ⟨i, x, idxI_some h1 h2 h3, h1, h2, h3⟩
theorem splice_mid (pre W junk vs : List Value) (q : Nat) (h : q + vs.length ≤ W.length) : (pre ++ W ++ junk).take (pre.length + q) ++ vs ++ (pre ++ W ++ junk).drop (pre.length + q + vs.length) = pre ++ (W.take q ++ vs ++ W.drop (q + vs.length)) ++ junk := by
 rw [List.append_assoc pre W junk, List.take_length_add_append, Nat.add_assoc, List.drop_length_add_append, List.take_append_of_le_length (by omega), List.drop_append_of_le_length (by omega)]
 simp only [List.append_assoc]
theorem chunk_take {α : Type} {g : α → List Value} {s : Nat} (hs : ∀ x, (g x).length = s) (l : List α) (i : Nat) (hi : i ≤ l.length) : (l.take i).flatMap g = (l.flatMap g).take (i * s) := by
 have h1 : l.flatMap g = (l.take i).flatMap g ++ (l.drop i).flatMap g := by rw [← List.flatMap_append, List.take_append_drop]
 have h2 : ((l.take i).flatMap g).length = i * s := by rw [chunk_len hs, List.length_take, Nat.min_eq_left hi]
 rw [h1, ← h2, List.take_left]
theorem flat_replicate (n : Nat) (x : List Value) : (List.replicate n x).flatten.length = n * x.length := by
 induction n with
 | zero => simp
 | succ n ih => rw [List.replicate_succ, List.flatten_cons, List.length_append, ih, Nat.add_mul, Nat.one_mul]; omega
theorem and_mask_i64 (x n : Nat) (hx : x < 9223372036854775808) (hn : n < 63) : IntKind.i64.wrap ((BitVec.ofInt IntKind.i64.bits (x : Int) &&& BitVec.ofInt IntKind.i64.bits ((2 ^ n - 1 : Nat) : Int)).toNat : Int) = ((x % 2 ^ n : Nat) : Int) := by
 have e1 : (BitVec.ofInt IntKind.i64.bits (x : Int)).toNat = x := by
  rw [BitVec.toNat_ofInt]
  have : IntKind.i64.bits = 64 := rfl
  rw [this]
  omega
 have hp : 2 ^ n < 2 ^ 63 := Nat.pow_lt_pow_right (by omega) hn
 have hpos : 0 < 2 ^ n := Nat.pow_pos (by omega)
 have e2 : (BitVec.ofInt IntKind.i64.bits ((2 ^ n - 1 : Nat) : Int)).toNat = 2 ^ n - 1 := by
  rw [BitVec.toNat_ofInt]
  have : IntKind.i64.bits = 64 := rfl
  rw [this]
  omega
 rw [BitVec.toNat_and, e1, e2, Nat.and_two_pow_sub_one_eq_mod]
 have hlt : x % 2 ^ n < 9223372036854775808 := Nat.lt_of_le_of_lt (Nat.mod_le _ _) hx
 exact wrap_in (by simp only [inK]; omega)
theorem and_one_u8 (x : Nat) (hx : x < 256) : IntKind.u8.wrap ((BitVec.ofInt IntKind.u8.bits (x : Int) &&& BitVec.ofInt IntKind.u8.bits 1).toNat : Int) = ((x % 2 : Nat) : Int) := by
 have e1 : (BitVec.ofInt IntKind.u8.bits (x : Int)).toNat = x := by
  rw [BitVec.toNat_ofInt]
  have : IntKind.u8.bits = 8 := rfl
  rw [this]
  omega
 have e2 : (BitVec.ofInt IntKind.u8.bits (1 : Int)).toNat = 2 ^ 1 - 1 := by decide
 rw [BitVec.toNat_and, e1, e2, Nat.and_two_pow_sub_one_eq_mod]
 exact wrap_in (by simp only [inK]; omega)
end Go.SL
/- Engine, part Wd: words of 32 bits. Nothing here names a program. -/
namespace Go.SL
open Go
abbrev W32 := BitVec 32
def u32 (x : W32) : Value := .int .u32 (x.toNat : Int)
def wV (l : List W32) : List Value := l.map u32
theorem wV_len (l : List W32) : (wV l).length = l.length := by simp [wV]
theorem wV_get {l : List W32} {i : Nat} {x : W32} (h : l[i]? = some x) : (wV l)[i]? = some (u32 x) := by simp [wV, h]
theorem wV_set (l : List W32) (i : Nat) (x : W32) : (wV l).set i (u32 x) = wV (l.set i x) := by simp [wV]
def wB (c : UInt8) : W32 := BitVec.ofNat 32 c.toNat
theorem wB_nat (c : UInt8) : (wB c).toNat = c.toNat := by
 have := c.toNat_lt
 simp only [wB, BitVec.toNat_ofNat]
 omega
theorem wrap32 (n : Nat) : IntKind.u32.wrap (n : Int) = ((n % 4294967296 : Nat) : Int) := by
 simp [IntKind.wrap, IntKind.bits, IntKind.signed]
theorem ofInt32 (p : W32) : BitVec.ofInt IntKind.u32.bits ((p.toNat : Nat) : Int) = p := by
 apply BitVec.eq_of_toNat_eq
 have h : IntKind.u32.bits = 32 := rfl
 rw [BitVec.toNat_ofInt]
 have := p.isLt
 show (((p.toNat : Nat) : Int) % ((2 ^ 32 : Nat) : Int)).toNat = p.toNat
 omega
section
variable {P : Program} {U : Tr} [hU : TabOk P U] {f : FuncId} {n : Nat} {R : Ending → World → Prop} {G : Glob} {k : List Item} {L : Lst} {H H' : List HP} {S : World → Prop} {all : Array Oper} {rest : Pl}
 {ty : TypeId} {pos : String} {af : Array Edge} {gd : Option (Nat × Bool)} {m : Bool} {d : Tmp}
theorem J_addU {t yt : TypeId} {x y : Operand} {p q : W32} (hd : Nat.blt d n = true) (hx : ev L x = some (.int .u32 (p.toNat : Int))) (hy : ev L y = some (.int .u32 (q.toNat : Int)))
  (h : J P f n R G S all rest k ((d, .int .u32 ((p + q).toNat : Int)) :: L) H) : J P f n R G S all (.cons m true ⟨some d, .binOp .add t x y yt, ty, pos, af, gd⟩ rest) k L H := by
 refine J_addW hd hx hy ?_
 have e : IntKind.u32.wrap ((p.toNat : Int) + (q.toNat : Int)) = ((p + q).toNat : Int) := by
  rw [← Int.natCast_add, wrap32, BitVec.toNat_add]
 rw [e]; exact h
theorem J_mulU {t yt : TypeId} {x y : Operand} {p q : W32} (hd : Nat.blt d n = true) (hx : ev L x = some (.int .u32 (p.toNat : Int))) (hy : ev L y = some (.int .u32 (q.toNat : Int)))
  (h : J P f n R G S all rest k ((d, .int .u32 ((p * q).toNat : Int)) :: L) H) : J P f n R G S all (.cons m true ⟨some d, .binOp .mul t x y yt, ty, pos, af, gd⟩ rest) k L H := by
 refine J_mulW hd hx hy ?_
 have e : IntKind.u32.wrap ((p.toNat : Int) * (q.toNat : Int)) = ((p * q).toNat : Int) := by
  rw [← Int.natCast_mul, wrap32, BitVec.toNat_mul]
 rw [e]; exact h
theorem wrap_self (p : W32) : IntKind.u32.wrap (p.toNat : Int) = (p.toNat : Int) := by
 rw [wrap32]; have := p.isLt; congr 1; omega
theorem J_xorU {t yt : TypeId} {x y : Operand} {p q : W32} (hd : Nat.blt d n = true) (hx : ev L x = some (.int .u32 (p.toNat : Int))) (hy : ev L y = some (.int .u32 (q.toNat : Int)))
  (h : J P f n R G S all rest k ((d, .int .u32 ((p ^^^ q).toNat : Int)) :: L) H) : J P f n R G S all (.cons m true ⟨some d, .binOp .xor t x y yt, ty, pos, af, gd⟩ rest) k L H :=
 J_pure hd (fun a ha w => by
  have e : IntKind.u32.wrap ((BitVec.ofInt IntKind.u32.bits (p.toNat : Int) ^^^ BitVec.ofInt IntKind.u32.bits (q.toNat : Int)).toNat : Int) = ((p ^^^ q).toNat : Int) := by rw [ofInt32, ofInt32]; exact wrap_self (p ^^^ q)
  simp [execOp, ha.ev hx, ha.ev hy, eqGuard, binOp, Op.intBits]
  simpa using e) h
theorem J_andU {t yt : TypeId} {x y : Operand} {p q : W32} (hd : Nat.blt d n = true) (hx : ev L x = some (.int .u32 (p.toNat : Int))) (hy : ev L y = some (.int .u32 (q.toNat : Int)))
  (h : J P f n R G S all rest k ((d, .int .u32 ((p &&& q).toNat : Int)) :: L) H) : J P f n R G S all (.cons m true ⟨some d, .binOp .and t x y yt, ty, pos, af, gd⟩ rest) k L H :=
 J_pure hd (fun a ha w => by
  have e : IntKind.u32.wrap ((BitVec.ofInt IntKind.u32.bits (p.toNat : Int) &&& BitVec.ofInt IntKind.u32.bits (q.toNat : Int)).toNat : Int) = ((p &&& q).toNat : Int) := by rw [ofInt32, ofInt32]; exact wrap_self (p &&& q)
  simp [execOp, ha.ev hx, ha.ev hy, eqGuard, binOp, Op.intBits]
  simpa using e) h
theorem J_orU {t yt : TypeId} {x y : Operand} {p q : W32} (hd : Nat.blt d n = true) (hx : ev L x = some (.int .u32 (p.toNat : Int))) (hy : ev L y = some (.int .u32 (q.toNat : Int)))
  (h : J P f n R G S all rest k ((d, .int .u32 ((p ||| q).toNat : Int)) :: L) H) : J P f n R G S all (.cons m true ⟨some d, .binOp .or t x y yt, ty, pos, af, gd⟩ rest) k L H :=
 J_pure hd (fun a ha w => by
  have e : IntKind.u32.wrap ((BitVec.ofInt IntKind.u32.bits (p.toNat : Int) ||| BitVec.ofInt IntKind.u32.bits (q.toNat : Int)).toNat : Int) = ((p ||| q).toNat : Int) := by rw [ofInt32, ofInt32]; exact wrap_self (p ||| q)
  simp [execOp, ha.ev hx, ha.ev hy, eqGuard, binOp, Op.intBits]
  simpa using e) h
theorem J_shrU {t yt : TypeId} {x y : Operand} {p : W32} {j' : IntKind} {q : Int} (s : Nat) (hd : Nat.blt d n = true) (hx : ev L x = some (.int .u32 (p.toNat : Int))) (hy : ev L y = some (.int j' q)) (hq : q = (s : Int)) (hs : s ≤ 32)
  (h : J P f n R G S all rest k ((d, .int .u32 ((p >>> s).toNat : Int)) :: L) H) : J P f n R G S all (.cons m true ⟨some d, .binOp .shr t x y yt, ty, pos, af, gd⟩ rest) k L H := by
 subst hq
 refine J_shr hd hx hy (by omega) ?_
 have e : (p.toNat : Int) / 2 ^ (min ((s : Int).toNat) IntKind.u32.bits) = ((p >>> s).toNat : Int) := by
  rw [BitVec.toNat_ushiftRight, Nat.shiftRight_eq_div_pow, Int.toNat_natCast, show min s IntKind.u32.bits = s from by show min s 32 = s; omega]
  simp
 rw [e]; exact h
theorem J_shlU {t yt : TypeId} {x y : Operand} {p : W32} {j' : IntKind} {q : Int} (s : Nat) (hd : Nat.blt d n = true) (hx : ev L x = some (.int .u32 (p.toNat : Int))) (hy : ev L y = some (.int j' q)) (hq : q = (s : Int)) (hs : s ≤ 32)
  (h : J P f n R G S all rest k ((d, .int .u32 ((p <<< s).toNat : Int)) :: L) H) : J P f n R G S all (.cons m true ⟨some d, .binOp .shl t x y yt, ty, pos, af, gd⟩ rest) k L H := by
 subst hq
 refine J_shlW hd hx hy (by omega) ?_
 have e : IntKind.u32.wrap ((p.toNat : Int) * 2 ^ (min ((s : Int).toNat) IntKind.u32.bits)) = ((p <<< s).toNat : Int) := by
  rw [BitVec.toNat_shiftLeft, Nat.shiftLeft_eq, Int.toNat_natCast, show min s IntKind.u32.bits = s from by show min s 32 = s; omega]
  rw [show (p.toNat : Int) * 2 ^ s = ((p.toNat * 2 ^ s : Nat) : Int) from by simp, wrap32]
 rw [e]; exact h
theorem J_notU {t : TypeId} {x : Operand} {p : W32} (hd : Nat.blt d n = true) (hx : ev L x = some (.int .u32 (p.toNat : Int)))
  (h : J P f n R G S all rest k ((d, .int .u32 ((~~~p).toNat : Int)) :: L) H) : J P f n R G S all (.cons m true ⟨some d, .unOp .xor t x, ty, pos, af, gd⟩ rest) k L H :=
 J_pure hd (fun a ha w => by
  have e : IntKind.u32.wrap ((BitVec.ofInt IntKind.u32.bits IntKind.u32.max ^^^ BitVec.ofInt IntKind.u32.bits (p.toNat : Int)).toNat : Int) = ((~~~p).toNat : Int) := by
   rw [ofInt32]
   have e1 : BitVec.ofInt 32 4294967295 ^^^ p = ~~~p := by rw [show BitVec.ofInt 32 4294967295 = BitVec.allOnes 32 from by decide]; exact BitVec.allOnes_xor
   exact (congrArg (fun z : BitVec 32 => IntKind.u32.wrap (z.toNat : Int)) e1).trans (wrap_self (~~~p))
  simp only [execOp, ha.ev hx, Sem.run_bind, Result.andThen_ok, Op.unary, IntKind.signed, Bool.false_eq_true, if_false, Op.intBits]
  simp
  simpa using e) h
theorem J_wordOf {src dst : TypeId} {ts td : Ty} {x : Operand} {j' : IntKind} {c : UInt8} (hd : Nat.blt d n = true) (hx : ev L x = some (.int .u8 (c.toNat : Int))) (hs : U.get src = some ts) (hsu : ts.und = .int j') (hdt : U.get dst = some td) (hdu : td.und = .int .u32)
  (h : J P f n R G S all rest k ((d, .int .u32 ((wB c).toNat : Int)) :: L) H) : J P f n R G S all (.cons m true ⟨some d, .convert src dst x, ty, pos, af, gd⟩ rest) k L H := by
 refine J_conv hd hx hs hsu hdt hdu (by have := c.toNat_lt; simp only [inK]; omega) ?_
 rw [wB_nat] at h; exact h
theorem J_byteOfU {src dst : TypeId} {ts td : Ty} {x : Operand} {j' : IntKind} {p : W32} (hd : Nat.blt d n = true) (hx : ev L x = some (.int .u32 (p.toNat : Int))) (hs : U.get src = some ts) (hsu : ts.und = .int j') (hdt : U.get dst = some td) (hdu : td.und = .int .u8)
  (h : J P f n R G S all rest k ((d, u8 (UInt8.ofNat p.toNat)) :: L) H) : J P f n R G S all (.cons m true ⟨some d, .convert src dst x, ty, pos, af, gd⟩ rest) k L H := by
 refine J_convW hd hx hs hsu hdt hdu ?_
 have e : Value.int .u8 (IntKind.u8.wrap (p.toNat : Int)) = u8 (UInt8.ofNat p.toNat) := by
  simp [u8, IntKind.wrap, IntKind.bits, IntKind.signed]
 rw [e]; exact h
end
end Go.SL
/- Engine, part Dg: hashes: arrays of 32 bytes; equality of arrays and structs. Nothing here names a program. -/
namespace Go.SL
open Go
structure Dg where
 bs : List UInt8
 len : bs.length = 32
deriving DecidableEq
def Dg.at (x : Dg) (i : Nat) : UInt8 := x.bs.getD i 0
def Dg.zero : Dg := ⟨List.replicate 32 0, by simp⟩
instance : Inhabited Dg := ⟨Dg.zero⟩
def dC (x : Dg) : List Value :=
  [u8 (x.at 0), u8 (x.at 1), u8 (x.at 2), u8 (x.at 3), u8 (x.at 4), u8 (x.at 5), u8 (x.at 6), u8 (x.at 7), u8 (x.at 8), u8 (x.at 9), u8 (x.at 10), u8 (x.at 11), u8 (x.at 12), u8 (x.at 13), u8 (x.at 14), u8 (x.at 15),
   u8 (x.at 16), u8 (x.at 17), u8 (x.at 18), u8 (x.at 19), u8 (x.at 20), u8 (x.at 21), u8 (x.at 22), u8 (x.at 23), u8 (x.at 24), u8 (x.at 25), u8 (x.at 26), u8 (x.at 27), u8 (x.at 28), u8 (x.at 29), u8 (x.at 30), u8 (x.at 31)]
theorem dC_len (x : Dg) : (dC x).length = 32 := rfl
theorem dC_bV (x : Dg) : dC x = bV x.bs := by
 have h1 : x.bs = (List.range 32).map (fun i => x.at i) := by
  apply List.ext_getElem?
  intro i
  rcases Nat.lt_or_ge i 32 with h | h
  ·rw [List.getElem?_map, List.getElem?_range h]
   simp only [Dg.at, Option.map_some, List.getD_eq_getElem?_getD]
   rw [List.getElem?_eq_getElem (by rw [x.len]; exact h)]; rfl
  ·rw [List.getElem?_eq_none (by rw [x.len]; exact h), List.getElem?_eq_none (by simpa using h)]
 conv => rhs; rw [h1]
 rfl
theorem u8_inj2 {a b : UInt8} (h : u8 a = u8 b) : a = b := by
 simp only [u8, Value.int.injEq, true_and, Int.natCast_inj] at h
 exact UInt8.toNat.inj h
theorem bV_inj {a b : List UInt8} (h : bV a = bV b) : a = b := by
 induction a generalizing b with
 | nil => cases b with
  | nil => rfl
  | cons y b => simp [bV] at h
 | cons x a ih => cases b with
  | nil => simp [bV] at h
  | cons y b =>
   simp only [bV, List.map_cons, List.cons.injEq] at h
   rw [u8_inj2 h.1, ih h.2]
theorem dC_inj {a b : Dg} (h : dC a = dC b) : a = b := by
 rw [dC_bV, dC_bV] at h
 have := bV_inj h
 cases a; cases b; simp_all
section
variable {P : Program}
theorem eqItems_u8 {e : TypeId} (he : P.underlying e = some (.int .u8)) (hc : P.cellsOf e = 1) (d : Nat) (a b : List UInt8) (hl : a.length = b.length) (w : World) : ∀ is : List Nat, (∀ i ∈ is, i < a.length) →
  (Op.eqItems (d + 1) e (P.cellsOf e) (bV a).toArray (bV b).toArray is).run P w = .ok (decide (∀ i ∈ is, a[i]? = b[i]?)) w := by
 intro is
 induction is with
 | nil => intro _; simp [Op.eqItems]
 | cons i is ih =>
  intro hi
  have hpk : P.plainKey e = true := by unfold Program.plainKey; rw [he]
  have hia := hi i (List.mem_cons_self ..)
  have h1 : (bV a).toArray[i * P.cellsOf e]? = some (u8 (a[i]'hia)) := by rw [hc, Nat.mul_one]; simp [bV, hia]
  have h2 : (bV b).toArray[i * P.cellsOf e]? = some (u8 (b[i]'(hl ▸ hia))) := by rw [hc, Nat.mul_one]; simp [bV, hl ▸ hia]
  simp only [Op.eqItems, Sem.run_bind, run_part_plain w hpk h1, run_part_plain w hpk h2, Result.andThen_ok]
  have h3 : (Op.equalIn (d + 1) e (u8 (a[i]'hia)) (u8 (b[i]'(hl ▸ hia)))).run P w = .ok (decide (a[i]'hia = b[i]'(hl ▸ hia))) w := by
   simp only [Op.equalIn, Sem.run_bind, Go.run_underlying he, Result.andThen_ok, u8, if_true, Sem.run_pure]
   congr 1
   rw [Bool.eq_iff_iff]
   simp only [beq_iff_eq, decide_eq_true_iff]
   constructor
   ·intro h; exact UInt8.toNat.inj (by omega)
   ·intro h; rw [h]
  rw [h3]
  simp only [Result.andThen_ok]
  have h4 : (a[i]? = b[i]?) ↔ a[i]'hia = b[i]'(hl ▸ hia) := by
   rw [List.getElem?_eq_getElem hia, List.getElem?_eq_getElem (hl ▸ hia), Option.some.injEq]
  by_cases h5 : a[i]'hia = b[i]'(hl ▸ hia)
  ·rw [decide_eq_true h5]
   simp only [Bool.not_true, Bool.false_eq_true, if_false]
   rw [ih fun j hj => hi j (List.mem_cons_of_mem _ hj)]
   congr 1
   rw [Bool.eq_iff_iff, decide_eq_true_iff, decide_eq_true_iff]
   constructor
   ·intro h j hj
    rcases List.mem_cons.1 hj with rfl | hj
    ·exact h4.2 h5
    ·exact h j hj
   ·exact fun h j hj => h j (List.mem_cons_of_mem _ hj)
  ·rw [decide_eq_false h5]
   simp only [Bool.not_false, if_true, Sem.run_pure]
   congr 1
   rw [eq_comm, decide_eq_false_iff_not]
   exact fun h => h5 (h4.1 (h i (List.mem_cons_self ..)))
theorem run_equalB {t e : TypeId} {n : Nat} {a b : List UInt8} (ht : P.underlying t = some (.array n e)) (he : P.underlying e = some (.int .u8)) (hc : P.cellsOf e = 1) (ha : a.length = n) (hb : b.length = n) (d : Nat) (w : World) :
  (Op.equalIn (d + 2) t (.agg (bV a).toArray) (.agg (bV b).toArray)).run P w = .ok (decide (a = b)) w := by
 obtain ⟨i, hi⟩ := info_of_underlying he
 rw [run_equalIn_array w (d + 1) _ _ ht hi, eqItems_u8 he hc d a b (by omega) w _ (fun i hi => by rw [ha]; exact List.mem_range.1 hi)]
 congr 1
 rw [Bool.eq_iff_iff, decide_eq_true_iff, decide_eq_true_iff]
 constructor
 ·intro h
  apply List.ext_getElem?
  intro j
  rcases Nat.lt_or_ge j n with hj | hj
  ·exact h j (List.mem_range.2 hj)
  ·rw [List.getElem?_eq_none (by omega), List.getElem?_eq_none (by omega)]
 ·rintro rfl j _; rfl
theorem run_equalD {t e : TypeId} (ht : P.underlying t = some (.array 32 e)) (he : P.underlying e = some (.int .u8)) (hc : P.cellsOf e = 1) (a b : Dg) (d : Nat) (w : World) :
  (Op.equalIn (d + 2) t (.agg (dC a).toArray) (.agg (dC b).toArray)).run P w = .ok (decide (a = b)) w := by
 rw [dC_bV, dC_bV, run_equalB ht he hc a.len b.len]
 congr 1
 rw [Bool.eq_iff_iff, decide_eq_true_iff, decide_eq_true_iff]
 constructor
 ·intro h; cases a; cases b; simp_all
 ·rintro rfl; rfl
end
section
variable {P : Program} {U : Tr} [hU : TabOk P U] {f : FuncId} {n : Nat} {R : Ending → World → Prop} {G : Glob} {k : List Item} {L : Lst} {H H' : List HP} {S : World → Prop} {all : Array Oper} {rest : Pl}
 {ty : TypeId} {pos : String} {af : Array Edge} {gd : Option (Nat × Bool)} {m : Bool} {d : Tmp}
theorem J_eqAgg {x y : Operand} {t yt : TypeId} {c1 c2 : Array Value} {b : Bool} (hd : Nat.blt d n = true) (hx : ev L x = some (.agg c1)) (hy : ev L y = some (.agg c2)) (hg : P.eqGuardType P.depth t = false)
  (he : ∀ w, (Op.equal t (.agg c1) (.agg c2)).run P w = .ok b w)
  (h : J P f n R G S all rest k ((d, .bool b) :: L) H) : J P f n R G S all (.cons m true ⟨some d, .binOp .eql t x y yt, ty, pos, af, gd⟩ rest) k L H := by
 have hrun : ∀ a w, Has n L a → (execOp a.eval ⟨some d, .binOp .eql t x y yt, ty, pos, af, gd⟩).run P w = .ok (.value (.bool b)) w := fun a w ha => by
  have hgu : (eqGuard .eql t x y (.agg c1) (.agg c2)).run P w = .ok () w := by simp [eqGuard, hg]
  have hb : (binOp .eql t (.agg c1) (.agg c2)).run P w = .ok (.bool b) w := by
   simp only [binOp, Sem.run_bind, he, Result.andThen_ok, Sem.run_pure]
  simp only [execOp, ha.ev hx, ha.ev hy, Sem.run_bind, hgu, hb, Result.andThen_ok, Sem.run_pure]
 cases m with
 | false => exact J_read hd (fun a w ha _ => hrun a w ha) h
 | true => exact J_readS hd (fun a w ha _ => hrun a w ha) h
theorem J_neAgg {x y : Operand} {t yt : TypeId} {c1 c2 : Array Value} {b : Bool} (hd : Nat.blt d n = true) (hx : ev L x = some (.agg c1)) (hy : ev L y = some (.agg c2)) (hg : P.eqGuardType P.depth t = false)
  (he : ∀ w, (Op.equal t (.agg c1) (.agg c2)).run P w = .ok b w)
  (h : J P f n R G S all rest k ((d, .bool (!b)) :: L) H) : J P f n R G S all (.cons m true ⟨some d, .binOp .neq t x y yt, ty, pos, af, gd⟩ rest) k L H := by
 have hrun : ∀ a w, Has n L a → (execOp a.eval ⟨some d, .binOp .neq t x y yt, ty, pos, af, gd⟩).run P w = .ok (.value (.bool (!b))) w := fun a w ha => by
  have hgu : (eqGuard .neq t x y (.agg c1) (.agg c2)).run P w = .ok () w := by simp [eqGuard, hg]
  have hb : (binOp .neq t (.agg c1) (.agg c2)).run P w = .ok (.bool (!b)) w := by
   simp only [binOp, Sem.run_bind, he, Result.andThen_ok, Sem.run_pure]
  simp only [execOp, ha.ev hx, ha.ev hy, Sem.run_bind, hgu, hb, Result.andThen_ok, Sem.run_pure]
 cases m with
 | false => exact J_read hd (fun a w ha _ => hrun a w ha) h
 | true => exact J_readS hd (fun a w ha _ => hrun a w ha) h
theorem J_build0 {t e : TypeId} {ty' te : Ty} {nn : Nat} {z : Array Value} (hd : Nat.blt d n = true) (ht : U.get t = some ty') (hu : ty'.und = .array nn e) (he : U.get e = some te) (hz : ty'.info.zero = some (.agg z))
  (h : J P f n R G S all rest k ((d, .agg z) :: L) H) : J P f n R G S all (.cons m true ⟨some d, .build t #[], ty, pos, af, gd⟩ rest) k L H := by
 have hrun : ∀ a w, Has n L a → (execOp a.eval ⟨some d, .build t #[], ty, pos, af, gd⟩).run P w = .ok (.value (.agg z)) w := fun a w ha => by
  simp only [execOp, Instr.build, Sem.run_bind, run_zeroValue ht hz, run_underlying ht, Result.andThen_ok, hu, run_sizeOf he, Array.map_empty, Instr.fill, Value.cells, Sem.run_pure]
 cases m with
 | false => exact J_read hd (fun a w ha _ => hrun a w ha) h
 | true => exact J_readS hd (fun a w ha _ => hrun a w ha) h
theorem J_sliceArr {t elem : TypeId} {ty' te : Ty} {x : Operand} {nn b off : Nat} (hd : Nat.blt d n = true) (ht : U.get t = some ty') (hu : ty'.und = .array nn elem) (he : U.get elem = some te)
  (hx : ev L x = some (.pointer (some ⟨b, off, none⟩)))
  (h : J P f n R G S all rest k ((d, .slice (some ⟨b, off, none⟩) nn nn) :: L) H) :
  J P f n R G S all (.cons m true ⟨some d, .slice t x none none none, ty, pos, af, gd⟩ rest) k L H := by
 refine J_pure hd (fun a ha w => ?_) h
 simp only [execOp, ha.ev hx, Instr.sliceAt, Sem.run_bind, run_underlying ht, Result.andThen_ok, hu, Instr.sureAddr, Instr.sliceBounds, Option.map_none, run_sizeOf he, Sem.run_pure]
 simp [Addr.add, run_sizeOf he]
theorem J_arrayAt {t elem : TypeId} {ty' : Ty} {x : Operand} {nn len cap : Nat} {a0 : Option Addr} (hd : Nat.blt d n = true) (ht : U.get t = some ty') (hu : ty'.und = .array nn elem)
  (hx : ev L x = some (.slice a0 len cap)) (hl : nn ≤ len)
  (h : J P f n R G S all rest k ((d, .pointer a0) :: L) H) :
  J P f n R G S all (.cons m true ⟨some d, .sliceToArrayPointer t x, ty, pos, af, gd⟩ rest) k L H := by
 refine J_pure hd (fun a ha w => ?_) h
 simp only [execOp, ha.ev hx, Instr.arrayAt, Sem.run_bind, run_underlying ht, Result.andThen_ok, hu]
 rw [if_neg (by omega)]
 simp
end
end Go.SL
/- digest, part a: the plain model: words, rounds, the sum. -/
namespace Go.SL
open Go
namespace Sha
def rot (x : W32) (n : Nat) : W32 := x <<< (32 - n) ||| x >>> n
theorem rot_xor (x : W32) (n : Nat) (h1 : 1 ≤ n) (h2 : n ≤ 31) : x >>> n ^^^ x <<< (32 - n) = rot x n := by
 apply BitVec.eq_of_getLsbD_eq
 intro i hi
 simp only [rot, BitVec.getLsbD_xor, BitVec.getLsbD_or, BitVec.getLsbD_ushiftRight, BitVec.getLsbD_shiftLeft]
 rcases Nat.lt_or_ge i (32 - n) with h | h
 ·simp [h]
 ·rw [BitVec.getLsbD_of_ge x (n + i) (by omega)]
  simp
def ks : List W32 := [
 0x428a2f98, 0x71374491, 0xb5c0fbcf, 0xe9b5dba5, 0x3956c25b, 0x59f111f1, 0x923f82a4, 0xab1c5ed5,
 0xd807aa98, 0x12835b01, 0x243185be, 0x550c7dc3, 0x72be5d74, 0x80deb1fe, 0x9bdc06a7, 0xc19bf174,
 0xe49b69c1, 0xefbe4786, 0x0fc19dc6, 0x240ca1cc, 0x2de92c6f, 0x4a7484aa, 0x5cb0a9dc, 0x76f988da,
 0x983e5152, 0xa831c66d, 0xb00327c8, 0xbf597fc7, 0xc6e00bf3, 0xd5a79147, 0x06ca6351, 0x14292967,
 0x27b70a85, 0x2e1b2138, 0x4d2c6dfc, 0x53380d13, 0x650a7354, 0x766a0abb, 0x81c2c92e, 0x92722c85,
 0xa2bfe8a1, 0xa81a664b, 0xc24b8b70, 0xc76c51a3, 0xd192e819, 0xd6990624, 0xf40e3585, 0x106aa070,
 0x19a4c116, 0x1e376c08, 0x2748774c, 0x34b0bcb5, 0x391c0cb3, 0x4ed8aa4a, 0x5b9cca4f, 0x682e6ff3,
 0x748f82ee, 0x78a5636f, 0x84c87814, 0x8cc70208, 0x90befffa, 0xa4506ceb, 0xbef9a3f7, 0xc67178f2]
def s0 (x : W32) : W32 := rot x 7 ^^^ rot x 18 ^^^ x >>> 3
def s1 (x : W32) : W32 := rot x 17 ^^^ rot x 19 ^^^ x >>> 10
def b0 (x : W32) : W32 := rot x 2 ^^^ rot x 13 ^^^ rot x 22
def b1 (x : W32) : W32 := rot x 6 ^^^ rot x 11 ^^^ rot x 25
def ch (e f g : W32) : W32 := g ^^^ e &&& (f ^^^ g)
def maj (a b c : W32) : W32 := a &&& b ||| c &&& (a ||| b)
theorem ch_ref (e f g : W32) : e &&& f ||| ~~~e &&& g = ch e f g := by
 apply BitVec.eq_of_getLsbD_eq
 intro i hi
 simp only [ch, BitVec.getLsbD_xor, BitVec.getLsbD_or, BitVec.getLsbD_and, BitVec.getLsbD_not, hi, decide_true, Bool.true_and]
 cases e.getLsbD i <;> cases f.getLsbD i <;> cases g.getLsbD i <;> rfl
theorem maj_ref (a b c : W32) : a &&& b ||| a &&& c ||| b &&& c = maj a b c := by
 apply BitVec.eq_of_getLsbD_eq
 intro i hi
 simp only [maj, BitVec.getLsbD_or, BitVec.getLsbD_and]
 cases a.getLsbD i <;> cases b.getLsbD i <;> cases c.getLsbD i <;> rfl
def word (b : List UInt8) (t : Nat) : W32 := wB (b.getD (4 * t) 0) <<< 24 ||| wB (b.getD (4 * t + 1) 0) <<< 16 ||| wB (b.getD (4 * t + 2) 0) <<< 8 ||| wB (b.getD (4 * t + 3) 0)
def sched (b : List UInt8) : Nat → List W32
 | 0 => []
 | t + 1 =>
  let w := sched b t
  if t < 16 then w ++ [word b t] else w ++ [w.getD (t - 16) 0 + w.getD (t - 7) 0 + s1 (w.getD (t - 2) 0) + s0 (w.getD (t - 15) 0)]
theorem sched_len (b : List UInt8) (t : Nat) : (sched b t).length = t := by
 induction t with
 | zero => rfl
 | succ t ih => simp only [sched]; split <;> simp [ih]
theorem sched_get (b : List UInt8) {t u : Nat} (h : t ≤ u) (i : Nat) (hi : i < t) : (sched b u)[i]? = (sched b t)[i]? := by
 induction u with
 | zero => omega
 | succ u ih =>
  rcases Nat.lt_or_ge u t with h2 | h2
  ·have : t = u + 1 := by omega
   rw [this]
  ·rw [← ih h2]
   simp only [sched]
   split <;> rw [List.getElem?_append_left (by rw [sched_len]; omega)]
structure St where
 a : W32
 b : W32
 c : W32
 d : W32
 e : W32
 f : W32
 g : W32
 h : W32
def round (s : St) (k w : W32) : St :=
 let x := s.h + b1 s.e + ch s.e s.f s.g + k + w
 let y := b0 s.a + maj s.a s.b s.c
 ⟨x + y, s.a, s.b, s.c, s.d + x, s.e, s.f, s.g⟩
def rounds (s : St) (w : List W32) : Nat → St
 | 0 => s
 | t + 1 => round (rounds s w t) (ks.getD t 0) (w.getD t 0)
def plus (s t : St) : St := ⟨s.a + t.a, s.b + t.b, s.c + t.c, s.d + t.d, s.e + t.e, s.f + t.f, s.g + t.g, s.h + t.h⟩
def chunk (s : St) (b : List UInt8) : St := plus s (rounds s (sched b 64) 64)
def start : St := ⟨0x6a09e667, 0xbb67ae85, 0x3c6ef372, 0xa54ff53a, 0x510e527f, 0x9b05688c, 0x1f83d9ab, 0x5be0cd19⟩
def chunks (s : St) (b : List UInt8) : Nat → St
 | 0 => s
 | n + 1 => chunk (chunks s b n) (b.drop (64 * n))
def St.l (s : St) : List W32 := [s.a, s.b, s.c, s.d, s.e, s.f, s.g, s.h]
def be8 (n : Nat) : List UInt8 := (List.range 8).map fun i => UInt8.ofNat (n / 2 ^ (56 - 8 * i))
def pad (n : Nat) : List UInt8 := 128 :: List.replicate ((119 - n % 64) % 64) 0 ++ be8 (8 * n)
def out (s : St) : List UInt8 := (List.range 32).map fun i => UInt8.ofNat ((s.l.getD (i / 4) 0) >>> (24 - 8 * (i % 4))).toNat
theorem out_len (s : St) : (out s).length = 32 := by simp [out]
def msg (b : List UInt8) : List UInt8 := b ++ pad b.length
end Sha
def sumL (b : List UInt8) : Dg := ⟨Sha.out (Sha.chunks Sha.start (Sha.msg b) ((Sha.msg b).length / 64)), Sha.out_len _⟩
def le8 (n : Nat) : List UInt8 := (List.range 8).map fun i => UInt8.ofNat (n / 2 ^ (8 * i))
def partsL (tag : UInt8) (ps : List (List UInt8)) : List UInt8 := tag :: ps.flatMap fun p => le8 p.length ++ p
def taggedL (tag : UInt8) (ps : List (List UInt8)) : Dg := sumL (partsL tag ps)
end Go.SL
namespace Go.SL
open Go
namespace Sha
def part (b : List UInt8) (t : Nat) : Nat → W32
 | 0 => 0
 | j + 1 => part b t j ||| wB (b.getD (4 * t + j) 0) <<< (24 - 8 * j)
theorem part4 (b : List UInt8) (t : Nat) : part b t 4 = word b t := by
 simp [part, word]
def fillW (b : List UInt8) (i : Nat) : List W32 := (List.range 64).map fun t => part b t (min 4 (i - 4 * t))
theorem fillW_len (b : List UInt8) (i : Nat) : (fillW b i).length = 64 := by simp [fillW]
theorem fillW_get (b : List UInt8) (i t : Nat) (ht : t < 64) : (fillW b i)[t]? = some (part b t (min 4 (i - 4 * t))) := by
 simp [fillW, ht]
theorem fillW_zero (b : List UInt8) : fillW b 0 = List.replicate 64 0 := by
 apply List.ext_getElem?
 intro t
 rcases Nat.lt_or_ge t 64 with h | h
 ·rw [fillW_get b 0 t h, List.getElem?_replicate, if_pos h]; simp [part]
 ·rw [List.getElem?_eq_none (by rw [fillW_len]; exact h), List.getElem?_eq_none (by simpa using h)]
theorem fillW_step (b : List UInt8) (i : Nat) (hi : i < 64) : (fillW b i).set (i / 4) (part b (i / 4) (i % 4) ||| wB (b.getD i 0) <<< (24 - 8 * (i % 4))) = fillW b (i + 1) := by
 apply List.ext_getElem?
 intro t
 rw [List.getElem?_set, fillW_len]
 rcases Nat.lt_or_ge t 64 with h | h
 ·rw [fillW_get b i t h, fillW_get b (i + 1) t h]
  by_cases ht : i / 4 = t
  ·subst ht
   rw [if_pos rfl, if_pos h]
   have e1 : min 4 (i + 1 - 4 * (i / 4)) = i % 4 + 1 := by omega
   have e2 : 4 * (i / 4) + i % 4 = i := by omega
   rw [e1, part, e2]
  ·rw [if_neg ht]
   have : min 4 (i - 4 * t) = min 4 (i + 1 - 4 * t) := by omega
   rw [this]
 ·rw [List.getElem?_eq_none (by rw [fillW_len]; exact h), List.getElem?_eq_none (l := fillW b (i + 1)) (by rw [fillW_len]; exact h)]
  split
  ·omega
  ·rfl
theorem sched_word (b : List UInt8) (t u : Nat) (h : t < u) (hu : t < 16) : (sched b u)[t]? = some (word b t) := by
 rw [sched_get b (t := t + 1) (by omega) t (by omega)]
 simp only [sched, if_pos hu]
 rw [List.getElem?_append_right (by rw [sched_len]; exact Nat.le_refl _), sched_len, Nat.sub_self]
 rfl
theorem fillW_end (b : List UInt8) : fillW b 64 = sched b 16 ++ List.replicate 48 0 := by
 apply List.ext_getElem?
 intro t
 rcases Nat.lt_or_ge t 16 with h | h
 ·rw [fillW_get b 64 t (by omega), List.getElem?_append_left (by rw [sched_len]; exact h), sched_word b t 16 h h, show min 4 (64 - 4 * t) = 4 from by omega, part4]
 ·rw [List.getElem?_append_right (by rw [sched_len]; exact h), sched_len]
  rcases Nat.lt_or_ge t 64 with h2 | h2
  ·rw [fillW_get b 64 t h2, List.getElem?_replicate, if_pos (by omega), show min 4 (64 - 4 * t) = 0 from by omega]; rfl
  ·rw [List.getElem?_eq_none (by rw [fillW_len]; exact h2), List.getElem?_eq_none (by simp; omega)]
def schedW (b : List UInt8) (t : Nat) : List W32 := sched b t ++ List.replicate (64 - t) 0
theorem schedW_len (b : List UInt8) (t : Nat) (h : t ≤ 64) : (schedW b t).length = 64 := by simp [schedW, sched_len]; omega
theorem schedW_get (b : List UInt8) (t i : Nat) (h : i < t) : (schedW b t)[i]? = some ((sched b t).getD i 0) := by
 unfold schedW
 rw [List.getElem?_append_left (by rw [sched_len]; exact h), List.getD_eq_getElem?_getD, List.getElem?_eq_getElem (by rw [sched_len]; exact h)]; rfl
theorem schedW_step (b : List UInt8) (t : Nat) (h1 : 16 ≤ t) (h2 : t < 64) : (schedW b t).set t ((sched b t).getD (t - 16) 0 + (sched b t).getD (t - 7) 0 + s1 ((sched b t).getD (t - 2) 0) + s0 ((sched b t).getD (t - 15) 0)) = schedW b (t + 1) := by
 unfold schedW
 rw [List.set_append_right _ _ (by rw [sched_len]; exact Nat.le_refl _), sched_len, Nat.sub_self, show 64 - t = (64 - (t + 1)) + 1 from by omega, List.replicate_succ, List.set_cons_zero]
 conv => rhs; unfold sched
 rw [if_neg (by omega)]
 simp
theorem schedW_end (b : List UInt8) : schedW b 64 = sched b 64 := by simp [schedW]
end Sha
end Go.SL
namespace Go.SL
open Go
namespace Sha
theorem sched_congr {b b' : List UInt8} (h : ∀ i, i < 64 → b.getD i 0 = b'.getD i 0) (t : Nat) : sched b t = sched b' t := by
 induction t with
 | zero => rfl
 | succ t ih =>
  simp only [sched, ih]
  split
  ·rename_i ht
   simp only [word, h (4 * t) (by omega), h (4 * t + 1) (by omega), h (4 * t + 2) (by omega), h (4 * t + 3) (by omega)]
  ·rfl
theorem chunk_app (s : St) (b r : List UInt8) (h : 64 ≤ b.length) : chunk s (b ++ r) = chunk s b := by
 unfold chunk
 rw [sched_congr (b := b ++ r) (b' := b) fun i hi => by
  simp only [List.getD_eq_getElem?_getD]
  rw [List.getElem?_append_left (by omega)]]
theorem chunks_app (s : St) (b r : List UInt8) : ∀ q, 64 * q ≤ b.length → chunks s (b ++ r) q = chunks s b q
 | 0, _ => rfl
 | q + 1, h => by
  simp only [chunks]
  rw [chunks_app s b r q (by omega), List.drop_append_of_le_length (by omega), chunk_app _ _ _ (by rw [List.length_drop]; omega)]
theorem chunks_add (s : St) (b : List UInt8) (p : Nat) : ∀ q, chunks s b (p + q) = chunks (chunks s b p) (b.drop (64 * p)) q
 | 0 => rfl
 | q + 1 => by
  rw [← Nat.add_assoc]
  simp only [chunks]
  rw [chunks_add s b p q, List.drop_drop, show 64 * p + 64 * q = 64 * (p + q) from by omega]
theorem sum_split (b : List UInt8) : chunks start (msg b) ((msg b).length / 64) = chunks (chunks start b (b.length / 64)) (b.drop (64 * (b.length / 64)) ++ pad b.length) ((b.drop (64 * (b.length / 64)) ++ pad b.length).length / 64) := by
 have h1 : 64 * (b.length / 64) ≤ b.length := by omega
 have hl : (msg b).length / 64 = b.length / 64 + (b.drop (64 * (b.length / 64)) ++ pad b.length).length / 64 := by
  simp only [msg, List.length_append, List.length_drop]
  omega
 rw [hl, chunks_add]
 unfold msg
 rw [chunks_app _ _ _ _ h1, List.drop_append_of_le_length h1]
end Sha
end Go.SL
namespace Go.SL
theorem sumL_bs (b : List UInt8) : (sumL b).bs = Sha.out (Sha.chunks Sha.start (Sha.msg b) ((Sha.msg b).length / 64)) := rfl
end Go.SL
namespace Go.SL
theorem put_byte {l : List UInt8} {i n : Nat} {x : UInt8} (hl : l.length = n) (h : l[i]? = some x) : (bV (l.take i ++ List.replicate (n - i) (0 : UInt8))).set i (u8 x) = bV (l.take (i + 1) ++ List.replicate (n - (i + 1)) (0 : UInt8)) := by
 have hi : i < n := by
  rcases Nat.lt_or_ge i l.length with h2 | h2
  ·omega
  ·rw [List.getElem?_eq_none h2] at h; cases h
 have e1 : (l.take i).length = i := by rw [List.length_take]; omega
 show ((l.take i ++ List.replicate (n - i) (0 : UInt8)).map u8).set i (u8 x) = _
 rw [← List.map_set, List.set_append_right _ _ (by omega), e1, Nat.sub_self, show n - i = (n - (i + 1)) + 1 from by omega, List.replicate_succ, List.set_cons_zero, List.take_add_one, h]
 simp [bV]
theorem allOne_bV (l : List UInt8) : allOne (bV l) = true := by
 induction l with
 | nil => rfl
 | cons x l ih =>
  show (Value.oneCell' (u8 x) && allOne (bV l)) = true
  rw [ih]; rfl
end Go.SL
/- Engine, part J: bits of a signed number under small masks. Nothing here names a program. -/
namespace Go.SL
theorem ofInt64 (x : Int) : (BitVec.ofInt IntKind.i64.bits x).toNat = (x % 18446744073709551616).toNat := by
 rw [BitVec.toNat_ofInt]; rfl
theorem and1_i64 (x : Int) : IntKind.i64.wrap ((BitVec.ofInt IntKind.i64.bits x &&& BitVec.ofInt IntKind.i64.bits 1).toNat : Int) = x % 2 := by
 have e2 : (BitVec.ofInt IntKind.i64.bits (1 : Int)).toNat = 2 ^ 1 - 1 := by decide
 rw [BitVec.toNat_and, ofInt64, e2, Nat.and_two_pow_sub_one_eq_mod, wrap_in (by simp only [inK]; omega)]
 omega
end Go.SL
/- Engine, part M: bytes of numbers, numbers of bytes; bits that do not meet. Nothing here names a program. -/
namespace Go.SL
def sts : Nat → Nat → Pt → Pt
 | _, 0, p => p
 | i, n + 1, p => .st i (sts (i + 1) n p)
theorem conv_u8 (n : Nat) : Value.int .u8 (IntKind.u8.wrap (n : Int)) = u8 (UInt8.ofNat n) := by
 have h : IntKind.u8.wrap (n : Int) = (n : Int) % 256 := by simp [IntKind.wrap, IntKind.bits, IntKind.signed]
 rw [h]
 simp only [u8, UInt8.toNat_ofNat']
 congr 1
theorem or_disj {a c k : Nat} (ha : a < 2 ^ k) : a ||| c * 2 ^ k = a + c * 2 ^ k := by
 have := Nat.shiftLeft_add_eq_or_of_lt ha c
 rw [Nat.shiftLeft_eq] at this
 rw [Nat.or_comm, ← this, Nat.add_comm]
theorem ofNat64 {a : Nat} (h : a < 18446744073709551616) : (BitVec.ofInt IntKind.i64.bits (a : Int)).toNat = a := by
 rw [ofInt64]; omega
theorem ofNatU64 {a : Nat} (h : a < 18446744073709551616) : (BitVec.ofInt IntKind.u64.bits (a : Int)).toNat = a := by
 rw [BitVec.toNat_ofInt]
 show ((a : Int) % 18446744073709551616).toNat = a
 omega
theorem ofNatU8 {a : Nat} (h : a < 256) : (BitVec.ofInt IntKind.u8.bits (a : Int)).toNat = a := by
 rw [BitVec.toNat_ofInt]
 show ((a : Int) % 256).toNat = a
 omega
theorem or_u64 {a c k : Nat} (ha : a < 2 ^ k) (h : a + c * 2 ^ k < 18446744073709551616) :
  IntKind.u64.wrap ((BitVec.ofInt IntKind.u64.bits (a : Int) ||| BitVec.ofInt IntKind.u64.bits ((c * 2 ^ k : Nat) : Int)).toNat : Int) = ((a + c * 2 ^ k : Nat) : Int) := by
 rw [BitVec.toNat_or, ofNatU64 (by omega), ofNatU64 (by omega), or_disj ha]
 exact wrap_in (by simp only [inK]; omega)
set_option maxRecDepth 10000 in
theorem or128_u8 (x : Nat) (hx : x < 256) : IntKind.u8.wrap ((BitVec.ofInt IntKind.u8.bits (x : Int) ||| BitVec.ofInt IntKind.u8.bits 128).toNat : Int) = ((x % 128 + 128 : Nat) : Int) := by
 have e2 : (BitVec.ofInt IntKind.u8.bits (128 : Int)).toNat = 128 := by decide
 have h : ∀ y, y < 256 → y ||| 128 = y % 128 + 128 := by decide
 rw [BitVec.toNat_or, ofNatU8 hx, e2, h x hx]
 exact wrap_in (by simp only [inK]; omega)
theorem andNot128_u8 (x : Nat) (hx : x < 256) : IntKind.u8.wrap ((BitVec.ofInt IntKind.u8.bits (x : Int) &&& ~~~ BitVec.ofInt IntKind.u8.bits 128).toNat : Int) = ((x % 128 : Nat) : Int) := by
 have e2 : (~~~ BitVec.ofInt IntKind.u8.bits (128 : Int)).toNat = 2 ^ 7 - 1 := by decide
 rw [BitVec.toNat_and, ofNatU8 hx, e2, Nat.and_two_pow_sub_one_eq_mod]
 exact wrap_in (by simp only [inK]; omega)
end Go.SL
