/- Engine, part I: whole elements of a slice, loaded and stored. Nothing here names a program. -/
import Derived.Test.YtokknepnmfklnaaEngH
set_option linter.unusedSimpArgs false
set_option linter.unusedVariables false
set_option linter.unusedSectionVars false
namespace Go.SL
section
variable {P : Program} {U : Tr} [hU : TabOk P U] {f : FuncId} {n : Nat} {R : Ending → World → Prop} {G : Glob} {k : List Item} {L : Lst} {H H' : List HP} {S : World → Prop} {all : Array Oper} {rest : Pl}
  {ty : TypeId} {pos : String} {af : Array Edge} {gd : Option (Nat × Bool)} {m : Bool} {d : Tmp}

theorem J_loadAggC {t : TypeId} {x : Operand} {b off : Nat} {ty' : Ty} {cs : List Value} (hd : Nat.blt d n = true) (hx : ev L x = some (.pointer (some ⟨b, off, none⟩)))
    (ht : U.get t = some ty') (hg : ty'.isAgg = true) (hl : Nat.beq cs.length ty'.info.size = true) (hc : ∀ w, Sat G w H → ∀ j v, cs[j]? = some v → w.cell? ⟨b, off + j, none⟩ = some v)
    (h : J P f n R G S all rest k ((d, .agg cs.toArray) :: L) H) : J P f n R G S all (.cons false true ⟨some d, .load t x, ty, pos, af, gd⟩ rest) k L H :=
  J_read hd (fun a w ha hw => by
    simp [execOp, ha.ev hx, run_loadAgg (P := P) ht hg (Nat.eq_of_beq_eq_true hl) (hc w hw)]) h
/-- A whole element out of a view. -/
theorem J_loadElem {t : TypeId} {x : Operand} {b o off nn cap : Nat} {ty' : Ty} {es cs : List Value} {A : HP} (i idx : Nat) (hd : Nat.blt d n = true) (hx : ev L x = some (.pointer (some ⟨b, off, none⟩)))
    (hi : getL H i = some A) (hv : Vw A (.slice (some ⟨b, o, none⟩) nn cap) nn cs) (hoff : off = o + idx) (hes : ∀ j v, es[j]? = some v → cs[idx + j]? = some v) (ht : U.get t = some ty') (hg : ty'.isAgg = true) (hl : Nat.beq es.length ty'.info.size = true)
    (h : J P f n R G S all rest k ((d, .agg es.toArray) :: L) H) : J P f n R G S all (.cons false true ⟨some d, .load t x, ty, pos, af, gd⟩ rest) k L H :=
  J_loadAggC (U := U) hd hx ht hg hl (fun w hw j v hj => by
    obtain ⟨h, hh, hA⟩ := hw.getA hi
    have := hv.cell (hes j v hj) h hA
    rw [hoff, show o + idx + j = o + (idx + j) by omega]
    exact cell_of_hcell hh this) h
theorem repl_many : ∀ (l vs acc : List Value) (off : Nat), off + vs.length ≤ l.length → repl acc off l vs = .mk (acc.reverse ++ (l.take off ++ vs ++ l.drop (off + vs.length))) := by
  intro l
  induction l with
  | nil =>
    intro vs acc off h
    simp only [List.length_nil] at h
    have h1 : off = 0 := by omega
    have h2 : vs = [] := List.eq_nil_of_length_eq_zero (by omega)
    subst h1 h2
    simp [repl, finV_mk]
  | cons y l ih =>
    intro vs acc off h
    cases vs with
    | nil => cases off <;> simp [repl, finV_mk]
    | cons v vs =>
      cases off with
      | zero =>
        simp only [repl]
        rw [ih vs _ 0 (by simp at h ⊢; omega)]
        simp
      | succ off =>
        simp only [repl]
        rw [ih (v :: vs) _ off (by simp at h ⊢; omega)]
        simp [show off + 1 + (vs.length + 1) = off + (vs.length + 1) + 1 by omega]
/-- A store of whatever cells into a row. -/
theorem J_storeRow {t : TypeId} {x y : Operand} {b off : Nat} {ty' : Ty} {l l' : List Value} {e : TypeId} {v : Value} (i : Nat) (hS : ∀ w, Sat G w H' → Sx rest S w)
    (hx : ev L x = some (.pointer (some ⟨b, off, none⟩))) (hy : ev L y = some v) (ht : U.get t = some ty') (hsz : Nat.beq (cellsL v).length ty'.info.size = true) (hne : Nat.beq (cellsL v).length 0 = false) (hone : allOne (cellsL v) = true)
    (hi : getL H i = some (pts b (cl l e))) (hfit : off + (cellsL v).length ≤ l.length) (hl : l' = l.take off ++ cellsL v ++ l.drop (off + (cellsL v).length)) (hp : putP i (pts b (cl l' e)) H [] = .mk H')
    (h : J P f n R G S all rest k L H') : J P f n R G S all (.cons false true ⟨none, .store t x y, ty, pos, af, gd⟩ rest) k L H :=
  J_store (U := U) i hS hx hy ht hsz hne hone hi (by rw [repl_many _ _ _ _ hfit, hl]; rfl) hp h
/-- A slice of its own, taken apart: it is nil, or a row. -/
theorem K_slcCases {e : TypeId} {sz nn : Nat} {v : Value} {cs : List Value} {H : List HP}
    (h0 : ∀ a, v = .slice a 0 0 → nn = 0 → cs = [] → K P f n R G k L H)
    (h1 : ∀ b o c pre junk, v = .slice (some ⟨b, o, none⟩) nn c → pre.length = o → nn ≤ c → c * sz ≤ cs.length + junk.length → cs.length = nn * sz → K P f n R G k L (pts b (cl (pre ++ cs ++ junk) e) :: H)) :
    K P f n R G k L (slc e sz v nn cs :: H) := by
  intro a w ha hw
  obtain ⟨t, o, u, hp, hpw, hA, hB, ⟨hl, hcase⟩, hBB, hd, he⟩ := hw
  rcases hcase with ⟨a0, hv, hn, hemp⟩ | ⟨b, oo, cap, pre, junk, hv, hpre, hn, hc, hpt⟩
  · refine h0 a0 hv hn (List.eq_nil_of_length_eq_zero (by rw [hl, hn]; simp)) a w ha ⟨t, o, u, hB, fun x y hxy => ?_, hBB⟩
    exact hpw x y (by rw [he x]; rw [hemp x]; simpa using hxy)
  · exact h1 b oo cap pre junk hv hpre hn hc hl a w ha ⟨t, o, u, hp, hpw, hA, hB, hpt, hBB, hd, he⟩
end
/-- The first of a list of rows of one length. -/
theorem chunk_get {α : Type} {g : α → List Value} {s : Nat} (hs : ∀ x, (g x).length = s) {l : List α} {i : Nat} {x : α} (h : l[i]? = some x) (j : Nat) (hj : j < s) : (l.flatMap g)[i * s + j]? = (g x)[j]? := by
  induction l generalizing i with
  | nil => simp at h
  | cons y l ih =>
    have hy := hs y
    rw [List.flatMap_cons]
    cases i with
    | zero => simp at h; subst h; rw [List.getElem?_append_left (by omega)]; simp
    | succ i =>
      simp at h
      have e : (i + 1) * s = i * s + s := by rw [Nat.add_mul, Nat.one_mul]
      rw [List.getElem?_append_right (by omega), hy, show (i + 1) * s + j - s = i * s + j by omega, ih h]
theorem chunk_len {α : Type} {g : α → List Value} {s : Nat} (hs : ∀ x, (g x).length = s) (l : List α) : (l.flatMap g).length = l.length * s := by
  induction l with
  | nil => simp
  | cons y l ih => rw [List.flatMap_cons, List.length_append, ih, hs, List.length_cons, Nat.add_mul, Nat.one_mul]; omega
theorem chunk_set {α : Type} {g : α → List Value} {s : Nat} (hs : ∀ x, (g x).length = s) {l : List α} {i : Nat} (hi : i < l.length) (x : α) : (l.set i x).flatMap g = (l.flatMap g).take (i * s) ++ g x ++ (l.flatMap g).drop (i * s + s) := by
  induction l generalizing i with
  | nil => simp at hi
  | cons y l ih =>
    have hy := hs y
    cases i with
    | zero =>
      rw [List.set_cons_zero, List.flatMap_cons, List.flatMap_cons, Nat.zero_mul, List.take_zero, List.nil_append, Nat.zero_add]
      rw [← hy, List.drop_left]
    | succ i =>
      have e : (i + 1) * s = s + i * s := by rw [Nat.add_mul, Nat.one_mul]; omega
      rw [List.set_cons_succ, List.flatMap_cons, List.flatMap_cons, ih (by simpa using hi), e, ← hy, List.take_length_add_append, show (g y).length + i * (g y).length + (g y).length = (g y).length + (i * (g y).length + (g y).length) by omega, List.drop_length_add_append]
      simp
theorem slc_closeN {e : TypeId} {sz b o c nn : Nat} {cs pre junk : List Value} (hp : pre.length = o) (hn : nn ≤ c) (hc : c * sz ≤ cs.length + junk.length) (hl : cs.length = nn * sz) (H : List HP) :
    Ent (pts b (cl (pre ++ cs ++ junk) e) :: H) (slc e sz (.slice (some ⟨b, o, none⟩) nn c) nn cs :: H) :=
  Ent.fold (B := [_]) fun h hs => ⟨h, sub.refl h, hl, .inr ⟨b, o, c, pre, junk, rfl, hp, hn, hc, Sep_one hs⟩⟩
theorem idxI_first {α : Type} {p : α → Bool} {l : List α} (h : ¬ idxI p l = -1) : ∃ (i : Nat) (x : α), idxI p l = i ∧ l[i]? = Option.some x ∧ p x = true ∧ ∀ y ∈ l.take i, p y = false := by
  have hex : ∃ (i : Nat) (x : α), l[i]? = Option.some x ∧ p x = true ∧ ∀ y ∈ l.take i, p y = false := by
    have hany : l.any p = true := by
      cases ha : l.any p with
      | true => rfl
      | false =>
        have h1 := idxI_neg.2 ha
        have h2 := idxI_ge p l
        omega
    clear h
    induction l with
    | nil => simp at hany
    | cons y l ih =>
      cases hy : p y with
      | true => exact ⟨0, y, by simp, hy, by simp⟩
      | false =>
        simp only [List.any_cons, hy, Bool.false_or] at hany
        obtain ⟨i, x, h1, h2, h3⟩ := ih hany
        refine ⟨i + 1, x, by simpa using h1, h2, fun z hz => ?_⟩
        rw [List.take_succ_cons] at hz
        rcases List.mem_cons.1 hz with rfl | hz
        · exact hy
        · exact h3 z hz
  obtain ⟨i, x, h1, h2, h3⟩ := hex
  exact ⟨i, x, idxI_some h1 h2 h3, h1, h2, h3⟩
theorem splice_mid (pre W junk vs : List Value) (q : Nat) (h : q + vs.length ≤ W.length) : (pre ++ W ++ junk).take (pre.length + q) ++ vs ++ (pre ++ W ++ junk).drop (pre.length + q + vs.length) = pre ++ (W.take q ++ vs ++ W.drop (q + vs.length)) ++ junk := by
  rw [List.append_assoc pre W junk, List.take_length_add_append, Nat.add_assoc, List.drop_length_add_append, List.take_append_of_le_length (by omega), List.drop_append_of_le_length (by omega)]
  simp only [List.append_assoc]
theorem chunk_take {α : Type} {g : α → List Value} {s : Nat} (hs : ∀ x, (g x).length = s) (l : List α) (i : Nat) (hi : i ≤ l.length) : (l.take i).flatMap g = (l.flatMap g).take (i * s) := by
  have h1 : l.flatMap g = (l.take i).flatMap g ++ (l.drop i).flatMap g := by rw [← List.flatMap_append, List.take_append_drop]
  have h2 : ((l.take i).flatMap g).length = i * s := by rw [chunk_len hs, List.length_take, Nat.min_eq_left hi]
  rw [h1, ← h2, List.take_left]
theorem flat_replicate (n : Nat) (x : List Value) : (List.replicate n x).flatten.length = n * x.length := by
  induction n with
  | zero => simp
  | succ n ih => rw [List.replicate_succ, List.flatten_cons, List.length_append, ih, Nat.add_mul, Nat.one_mul]; omega
/-- 'x & (2^n - 1)'. -/
theorem and_mask_i64 (x n : Nat) (hx : x < 9223372036854775808) (hn : n < 63) : IntKind.i64.wrap ((BitVec.ofInt IntKind.i64.bits (x : Int) &&& BitVec.ofInt IntKind.i64.bits ((2 ^ n - 1 : Nat) : Int)).toNat : Int) = ((x % 2 ^ n : Nat) : Int) := by
  have e1 : (BitVec.ofInt IntKind.i64.bits (x : Int)).toNat = x := by
    rw [BitVec.toNat_ofInt]
    have : IntKind.i64.bits = 64 := rfl
    rw [this]
    omega
  have hp : 2 ^ n < 2 ^ 63 := Nat.pow_lt_pow_right (by omega) hn
  have hpos : 0 < 2 ^ n := Nat.pow_pos (by omega)
  have e2 : (BitVec.ofInt IntKind.i64.bits ((2 ^ n - 1 : Nat) : Int)).toNat = 2 ^ n - 1 := by
    rw [BitVec.toNat_ofInt]
    have : IntKind.i64.bits = 64 := rfl
    rw [this]
    omega
  rw [BitVec.toNat_and, e1, e2, Nat.and_two_pow_sub_one_eq_mod]
  have hlt : x % 2 ^ n < 9223372036854775808 := Nat.lt_of_le_of_lt (Nat.mod_le _ _) hx
  exact wrap_in (by simp only [inK]; omega)
theorem and_one_u8 (x : Nat) (hx : x < 256) : IntKind.u8.wrap ((BitVec.ofInt IntKind.u8.bits (x : Int) &&& BitVec.ofInt IntKind.u8.bits 1).toNat : Int) = ((x % 2 : Nat) : Int) := by
  have e1 : (BitVec.ofInt IntKind.u8.bits (x : Int)).toNat = x := by
    rw [BitVec.toNat_ofInt]
    have : IntKind.u8.bits = 8 := rfl
    rw [this]
    omega
  have e2 : (BitVec.ofInt IntKind.u8.bits (1 : Int)).toNat = 2 ^ 1 - 1 := by decide
  rw [BitVec.toNat_and, e1, e2, Nat.and_two_pow_sub_one_eq_mod]
  exact wrap_in (by simp only [inK]; omega)
end Go.SL
