/- Engine, part H: small things for walks over slices and bytes. Nothing here names a program. -/
import Derived.Test.YtokknepnmfklnaaEngG
set_option linter.unusedVariables false
namespace Go.SL

/-- The place of the first that is so, or -1. -/
def idxI {α : Type} (p : α → Bool) : List α → Int
  | [] => -1
  | x :: l => if p x then 0 else (if idxI p l < 0 then -1 else idxI p l + 1)
theorem idxI_ge {α : Type} (p : α → Bool) (l : List α) : -1 ≤ idxI p l := by
  induction l with
  | nil => simp [idxI]
  | cons x l ih => simp only [idxI]; split; omega; split <;> omega
theorem idxI_lt {α : Type} (p : α → Bool) (l : List α) : idxI p l < l.length := by
  induction l with
  | nil => simp [idxI]
  | cons x l ih => simp only [idxI, List.length_cons]; split; omega; split <;> omega
theorem idxI_none {α : Type} {p : α → Bool} {l : List α} (h : ∀ x ∈ l, p x = false) : idxI p l = -1 := by
  induction l with
  | nil => rfl
  | cons x l ih => simp [idxI, h x (by simp), ih (fun y hy => h y (by simp [hy]))]
theorem idxI_some {α : Type} {p : α → Bool} {l : List α} {i : Nat} {x : α} (hi : l[i]? = some x) (hx : p x = true) (hb : ∀ y ∈ l.take i, p y = false) : idxI p l = i := by
  induction l generalizing i with
  | nil => simp at hi
  | cons y l ih =>
    cases i with
    | zero => simp at hi; subst hi; simp [idxI, hx]
    | succ i =>
      simp at hi hb
      have := ih hi hb.2
      simp only [idxI, hb.1, Bool.false_eq_true, if_false, this]
      split <;> omega
theorem idxI_neg {α : Type} {p : α → Bool} {l : List α} : idxI p l < 0 ↔ l.any p = false := by
  induction l with
  | nil => simp [idxI]
  | cons x l ih =>
    have := idxI_ge p l
    simp only [idxI, List.any_cons, Bool.or_eq_false_iff]
    cases hx : p x with
    | true => simp
    | false =>
      simp only [Bool.false_eq_true, if_false, true_and]
      rw [← ih]
      split <;> omega

/-- A cell of a view. -/
theorem Vw.cell {A : HP} {b o n cap : Nat} {cs : List Value} (h : Vw A (.slice (some ⟨b, o, none⟩) n cap) n cs) {i : Nat} {c : Value} (hi : cs[i]? = some c) : ∀ h, A h → hcell h b (o + i) = some c := by
  obtain ⟨a, cap', hv, h0 | ⟨b', o', ha, hc⟩⟩ := h
  · subst h0; simp at hi
  · simp only [Value.slice.injEq] at hv
    obtain ⟨rfl, _, rfl⟩ := hv
    simp only [Option.some.injEq, Addr.mk.injEq, and_true] at ha
    obtain ⟨rfl, rfl⟩ := ha
    exact fun h hA => hc h hA i c hi
theorem Vw.shape {A : HP} {v : Value} {n : Nat} {cs : List Value} (h : Vw A v n cs) : ∃ a cap, v = .slice a n cap := by
  obtain ⟨a, cap, hv, _⟩ := h; exact ⟨a, cap, hv⟩
/-- A view that is not empty lies somewhere. -/
theorem Vw.some {A : HP} {v : Value} {n : Nat} {cs : List Value} (h : Vw A v n cs) (h0 : cs ≠ []) : ∃ b o cap, v = .slice (some ⟨b, o, none⟩) n cap := by
  obtain ⟨a, cap, hv, h1 | ⟨b, o, ha, hc⟩⟩ := h
  · exact absurd h1 h0
  · exact ⟨b, o, cap, by rw [hv, ha]⟩
theorem bV_get {bs : List UInt8} {i : Nat} {x : UInt8} (h : bs[i]? = some x) : (bV bs)[i]? = some (u8 x) := by simp [bV, h]
theorem Ent.addEmp (H : List HP) : Ent H (emp :: H) := fun h hs => ⟨h, sub.refl h, star_comm (star_emp hs)⟩
/-- Two assertions as one. -/
theorem Ent.join (A B : HP) (H : List HP) : Ent (A :: B :: H) (star A B :: H) := fun h hs => ⟨h, sub.refl h, star_assoc hs⟩
theorem Ent.part (A B : HP) (H : List HP) : Ent (star A B :: H) (A :: B :: H) := fun h hs => ⟨h, sub.refl h, star_assoc' hs⟩
theorem Vw.left {A B : HP} {v : Value} {n : Nat} {cs : List Value} (h : Vw A v n cs) : Vw (star A B) v n cs := h.mono fun _ hs => star_left hs
theorem Vw.right {A B : HP} {v : Value} {n : Nat} {cs : List Value} (h : Vw B v n cs) : Vw (star A B) v n cs := h.mono fun _ hs => star_right hs
theorem u8_lt (x : UInt8) : ((x.toNat : Nat) : Int) < 256 := by have := x.toNat_lt; omega
theorem u8_inj {x y : UInt8} (h : (x.toNat : Int) = y.toNat) : x = y := UInt8.toNat_inj.1 (by omega)
/-- Two lists, place by place. -/
def All2 {α β : Type} (q : α → β → Prop) (l : List α) (r : List β) : Prop := l.length = r.length ∧ ∀ (i : Nat) (x : α) (y : β), l[i]? = Option.some x → r[i]? = Option.some y → q x y
theorem All2.nil {α β : Type} {q : α → β → Prop} : All2 q [] [] := ⟨rfl, fun i x y h => by simp at h⟩
theorem All2.snoc {α β : Type} {q : α → β → Prop} {l : List α} {r : List β} {x : α} {y : β} (h : All2 q l r) (hq : q x y) : All2 q (l ++ [x]) (r ++ [y]) := by
  obtain ⟨hl, ha⟩ := h
  refine ⟨by simp [hl], fun i u v hu hv => ?_⟩
  rcases Nat.lt_or_ge i l.length with h | h
  · rw [List.getElem?_append_left h] at hu
    rw [List.getElem?_append_left (by omega)] at hv
    exact ha i u v hu hv
  · rw [List.getElem?_append_right h] at hu
    rw [List.getElem?_append_right (by omega)] at hv
    have h0 : i - l.length = 0 := by
      rcases Nat.eq_zero_or_pos (i - l.length) with h | h
      · exact h
      · rw [List.getElem?_eq_none (by simp; omega)] at hu; cases hu
    rw [h0] at hu; rw [← hl, h0] at hv
    simp at hu hv; subst hu; subst hv; exact hq
theorem All2.cons {α β : Type} {q : α → β → Prop} {l : List α} {r : List β} {x : α} {y : β} (h : All2 q l r) (hq : q x y) : All2 q (x :: l) (y :: r) := by
  obtain ⟨hl, ha⟩ := h
  refine ⟨by simp [hl], fun i u v hu hv => ?_⟩
  cases i with
  | zero => simp at hu hv; subst hu; subst hv; exact hq
  | succ i => exact ha i u v (by simpa using hu) (by simpa using hv)
theorem All2.one {α β : Type} {q : α → β → Prop} {x : α} {y : β} (hq : q x y) : All2 q [x] [y] := All2.nil.cons hq
theorem All2.mono {α β : Type} {q q' : α → β → Prop} {l : List α} {r : List β} (h : All2 q l r) (hm : ∀ x y, q x y → q' x y) : All2 q' l r := ⟨h.1, fun i x y hx hy => hm x y (h.2 i x y hx hy)⟩
theorem All2.left {α β : Type} {q : α → β → Prop} {l : List α} {r : List β} (h : All2 q l r) {i : Nat} {x : α} (hi : l[i]? = Option.some x) : ∃ y, r[i]? = Option.some y ∧ q x y := by
  have hlt : i < l.length := by
    rcases Nat.lt_or_ge i l.length with h | h
    · exact h
    · rw [List.getElem?_eq_none h] at hi; cases hi
  have : i < r.length := by have := h.1; omega
  exact ⟨r[i], by simp [this], h.2 i x _ hi (by simp [this])⟩
theorem All2.right {α β : Type} {q : α → β → Prop} {l : List α} {r : List β} (h : All2 q l r) {i : Nat} {y : β} (hi : r[i]? = Option.some y) : ∃ x, l[i]? = Option.some x ∧ q x y := by
  have hlt : i < r.length := by
    rcases Nat.lt_or_ge i r.length with h | h
    · exact h
    · rw [List.getElem?_eq_none h] at hi; cases hi
  have : i < l.length := by have := h.1; omega
  exact ⟨l[i], by simp [this], h.2 i _ y (by simp [this]) hi⟩
theorem All2.set {α β : Type} {q : α → β → Prop} {l : List α} {r : List β} (h : All2 q l r) (i : Nat) {x : α} {y : β} (hq : q x y) : All2 q (l.set i x) (r.set i y) := by
  refine ⟨by simp [h.1], fun j u v hu hv => ?_⟩
  rw [List.getElem?_set] at hu hv
  by_cases hij : i = j
  · rw [if_pos hij] at hu hv
    split at hu
    · split at hv
      · cases hu; cases hv; exact hq
      · cases hv
    · cases hu
  · rw [if_neg hij] at hu hv; exact h.2 j u v hu hv
theorem Ent.to {H pre rest F T : List HP} (is : List Nat) (m : Nat) (h : pickE is [] H [] = .mk pre rest) (hd : rest.drop m = F) (ht : pre ++ F = T) : Ent H T := ht ▸ Ent.fin is m h hd
theorem slc_lift (e : TypeId) (size : Nat) (a : Option Addr) (H : List HP) : Ent H (slc e size (.slice a 0 0) 0 [] :: H) := fun h hs => ⟨h, sub.refl h, star_mono (slc_nil e size a) (fun _ h => h) (star_comm (star_emp hs))⟩
/-- A whole new row as a slice's own. -/
theorem slc_row (e : TypeId) (size b : Nat) (n cap : Nat) (cs junk : List Value) (H : List HP) (hl : cs.length = n * size) (hn : n ≤ cap) (hc : cap * size ≤ cs.length + junk.length) :
    Ent (pts b (cl (cs ++ junk) e) :: H) (slc e size (.slice (Option.some ⟨b, 0, none⟩) n cap) n cs :: H) :=
  Ent.fold (B := [_]) fun h hs => ⟨h, sub.refl h, hl, .inr ⟨b, 0, cap, [], junk, rfl, rfl, hn, hc, Sep_one hs⟩⟩
theorem allTake {α : Type} {q : α → Prop} {l : List α} {i : Nat} {x : α} (hb : ∀ y ∈ l.take i, q y) (hi : l[i]? = Option.some x) (hx : q x) : ∀ y ∈ l.take (i + 1), q y := by
  intro y hy
  have hlt : i < l.length := by
    rcases Nat.lt_or_ge i l.length with h | h
    · exact h
    · rw [List.getElem?_eq_none h] at hi; cases hi
  rw [List.take_succ_eq_append_getElem hlt] at hy
  rcases List.mem_append.1 hy with h | h
  · exact hb y h
  · simp at h
    have : l[i] = x := by simpa [hlt] using hi
    rw [h, this]; exact hx
theorem keep_nil {L : Lst} : ∀ t v, fget ([] : Lst) t = Option.some v → fget L t = Option.some v := fun _ _ h => by cases h
theorem keep_cons {L L' : Lst} {t0 : Nat} {v0 : Value} (h : fget L t0 = Option.some v0) (hr : ∀ t v, fget L' t = Option.some v → fget L t = Option.some v) : ∀ t v, fget ((t0, v0) :: L') t = Option.some v → fget L t = Option.some v := by
  intro t v e
  simp only [fget] at e
  cases hb : Nat.beq t0 t with
  | true => rw [← Nat.eq_of_beq_eq_true hb, h]; simpa [hb] using e
  | false => exact hr t v (by simpa [hb] using e)
/-- What stands as a slice of its own is a slice. -/
theorem J_shape {P : Program} {f : FuncId} {n : Nat} {R : Ending → World → Prop} {G : Glob} {k : List Item} {L : Lst} {H : List HP} {S : World → Prop} {all : Array Oper} {rest : Pl} {e : TypeId} {size nn : Nat} {v : Value} {cs : List Value}
    (i : Nat) (hi : getL H i = some (slc e size v nn cs)) (h : ∀ a c, v = .slice a nn c → J P f n R G S all rest k L H) : J P f n R G S all rest k L H :=
  J_sat fun w hw => by
    obtain ⟨h0, _, hA⟩ := hw.getA hi
    obtain ⟨_, ⟨a, rfl, rfl, _⟩ | ⟨b, o, cap, pre, junk, rfl, _⟩⟩ := hA
    · exact h _ _ rfl
    · exact h _ _ rfl
theorem K_shape {P : Program} {f : FuncId} {n : Nat} {R : Ending → World → Prop} {G : Glob} {k : List Item} {L : Lst} {H : List HP} {e : TypeId} {size nn : Nat} {v : Value} {cs : List Value}
    (i : Nat) (hi : getL H i = some (slc e size v nn cs)) (h : ∀ a c, v = .slice a nn c → K P f n R G k L H) : K P f n R G k L H :=
  K_sat fun ⟨w, hw⟩ => by
    obtain ⟨h0, _, hA⟩ := hw.getA hi
    obtain ⟨_, ⟨a, rfl, rfl, _⟩ | ⟨b, o, cap, pre, junk, rfl, _⟩⟩ := hA
    · exact h _ _ rfl
    · exact h _ _ rfl
/-- Bytes with others at a place. -/
def wroteL (old : List UInt8) (at_ : Nat) (b : List UInt8) : List UInt8 :=
  let o := old ++ List.replicate (at_ + b.length - old.length) 0
  o.take at_ ++ b ++ o.drop (at_ + b.length)
/-! ## a slice of its own: its cells -/
section
variable {P : Program} {U : Tr} [hU : TabOk P U] {f : FuncId} {n : Nat} {R : Ending → World → Prop} {G : Glob} {k : List Item} {L : Lst} {H H' : List HP} {S : World → Prop} {all : Array Oper} {rest : Pl}
  {ty : TypeId} {pos : String} {af : Array Edge} {gd : Option (Nat × Bool)} {m : Bool} {d : Tmp}
theorem J_slcAt {e : TypeId} {sz nn : Nat} {v : Value} {cs : List Value} (i : Nat) (hi : getL H i = some (slc e sz v nn cs)) (h0 : 0 < nn)
    (h : ∀ b o c, v = .slice (some ⟨b, o, none⟩) nn c → Vw (slc e sz v nn cs) v nn cs → J P f n R G S all rest k L H) : J P f n R G S all rest k L H :=
  J_sat fun w hw => by
    obtain ⟨h1, _, hA⟩ := hw.getA hi
    have hv := Vw.of_slc e sz v nn cs ⟨h1, hA⟩
    obtain ⟨_, ⟨a, rfl, rfl, _⟩ | ⟨b, o, cap, pre, junk, rfl, _⟩⟩ := hA
    · omega
    · exact h _ _ _ rfl hv
theorem J_slcVw {e : TypeId} {sz nn : Nat} {v : Value} {cs : List Value} (i : Nat) (hi : getL H i = some (slc e sz v nn cs))
    (h : Vw (slc e sz v nn cs) v nn cs → J P f n R G S all rest k L H) : J P f n R G S all rest k L H :=
  J_sat fun w hw => by
    obtain ⟨h1, _, hA⟩ := hw.getA hi
    exact h (Vw.of_slc e sz v nn cs ⟨h1, hA⟩)
/-- A load of a cell of a slice's view, told by its number. -/
theorem J_loadAt {t : TypeId} {x : Operand} {b o off nn cap : Nat} {ty' : Ty} {c : Value} {A : HP} {cs : List Value} (i idx : Nat) (hd : Nat.blt d n = true) (hx : ev L x = some (.pointer (some ⟨b, off, none⟩)))
    (hi : getL H i = some A) (hv : Vw A (.slice (some ⟨b, o, none⟩) nn cap) nn cs) (hoff : off = o + idx) (hc : cs[idx]? = some c) (ht : U.get t = some ty') (hg : ty'.isAgg = false)
    (h : J P f n R G S all rest k ((d, c) :: L) H) : J P f n R G S all (.cons false true ⟨some d, .load t x, ty, pos, af, gd⟩ rest) k L H :=
  J_loadV (U := U) i hd (hoff ▸ hx) hi (hv.cell hc) ht hg h
theorem J_loadAtS {Hs : List HP} {t : TypeId} {x : Operand} {b o off nn cap : Nat} {ty' : Ty} {c : Value} {A : HP} {cs : List Value} (i idx : Nat) (hd : Nat.blt d n = true) (hx : ev L x = some (.pointer (some ⟨b, off, none⟩)))
    (hi : getL Hs i = some A) (hv : Vw A (.slice (some ⟨b, o, none⟩) nn cap) nn cs) (hoff : off = o + idx) (hc : cs[idx]? = some c) (ht : U.get t = some ty') (hg : ty'.isAgg = false)
    (h : J P f n R G (fun w => Sat G w Hs) all rest k ((d, c) :: L) H) : J P f n R G (fun w => Sat G w Hs) all (.cons true true ⟨some d, .load t x, ty, pos, af, gd⟩ rest) k L H :=
  J_loadS (U := U) hd (hoff ▸ hx) (fun w hw => by
    obtain ⟨h, hh, hA⟩ := hw.getA hi
    exact cell_of_hcell hh (hv.cell hc h hA)) ht hg h
theorem finV_mk : ∀ (acc l : List Value), finV acc l = .mk (acc.reverse ++ l)
  | [], l => rfl
  | a :: acc, l => by simp only [finV, finV_mk acc (a :: l)]; simp
theorem repl_go (u : Value) : ∀ (l acc : List Value) (off : Nat), off < l.length → repl acc off l [u] = .mk (acc.reverse ++ l.set off u) := by
  intro l
  induction l with
  | nil => intro acc off h; simp at h
  | cons y l ih =>
    intro acc off h
    cases off with
    | zero =>
      simp only [repl]
      cases l <;> simp [finV_mk]
    | succ off => simp only [repl]; rw [ih _ _ (by simpa using h)]; simp
theorem slc_open {e : TypeId} {b o c nn : Nat} {cs : List Value} : ∀ h, slc e 1 (.slice (some ⟨b, o, none⟩) nn c) nn cs h → 0 < nn → ∃ x : List Value × List Value, (x.1.length = o ∧ nn ≤ c ∧ c ≤ cs.length + x.2.length ∧ cs.length = nn) ∧ Sep [pts b (cl (x.1 ++ cs ++ x.2) e)] h := by
  rintro h ⟨hl, ⟨a, hv, rfl, _⟩ | ⟨b', o', cap, pre, junk, hv, hp, hn, hc, hpt⟩⟩ h0
  · omega
  · simp only [Value.slice.injEq, Option.some.injEq, Addr.mk.injEq, and_true, true_and] at hv
    obtain ⟨⟨rfl, rfl⟩, rfl⟩ := hv
    exact ⟨(pre, junk), ⟨hp, hn, by simpa using hc, by simpa using hl⟩, Sep_one' hpt⟩
theorem slc_close {e : TypeId} {b o c nn : Nat} {cs pre junk : List Value} (hp : pre.length = o) (hn : nn ≤ c) (hc : c ≤ cs.length + junk.length) (hl : cs.length = nn) (H : List HP) :
    Ent (pts b (cl (pre ++ cs ++ junk) e) :: H) (slc e 1 (.slice (some ⟨b, o, none⟩) nn c) nn cs :: H) :=
  Ent.fold (B := [_]) fun h hs => ⟨h, sub.refl h, by simpa using hl, .inr ⟨b, o, c, pre, junk, rfl, hp, hn, by simpa using hc, Sep_one hs⟩⟩
theorem J_storeSlc {t : TypeId} {x y : Operand} {b o q c nn : Nat} {ty' : Ty} {u : Value} {e : TypeId} {cs : List Value} (i : Nat) (hS : ∀ w, Sat G w H' → Sx rest S w)
    (hx : ev L x = some (.pointer (some ⟨b, o + q, none⟩))) (hy : ev L y = some u) (ht : U.get t = some ty') (hsz : Nat.beq ty'.info.size 1 = true) (hc : cellsL u = [u]) (hone : allOne [u] = true)
    (hi : getL H i = some (slc e 1 (.slice (some ⟨b, o, none⟩) nn c) nn cs)) (hq : q < nn) (hp : putP i (slc e 1 (.slice (some ⟨b, o, none⟩) nn c) nn (cs.set q u)) H [] = .mk H')
    (h : J P f n R G S all rest k L H') : J P f n R G S all (.cons false true ⟨none, .store t x y, ty, pos, af, gd⟩ rest) k L H := by
  refine J_ent (Ent.perm (perm_of_get (by rw [← getL_eq]; exact hi))) ?_
  refine J_open (B := fun x : List Value × List Value => [pts b (cl (x.1 ++ cs ++ x.2) e)]) (fun h hs => slc_open h hs (by omega)) ?_
  rintro ⟨pre, junk⟩ ⟨h1, h2, h3, h4⟩
  simp only at h1 h2 h3 h4
  have hset : (pre ++ cs ++ junk).set (o + q) u = pre ++ cs.set q u ++ junk := by
    rw [List.append_assoc, List.set_append_right _ _ (by omega), show o + q - pre.length = q by omega, List.set_append_left _ _ (by omega), List.append_assoc]
  have hE : Ent (pts b (cl (pre ++ cs.set q u ++ junk) e) :: H.eraseIdx i) H' := by
    have h5 := putP_eq i _ _ H [] H' hp hi
    exact (slc_close h1 h2 (by rw [List.length_set]; exact h3) (by rw [List.length_set]; exact h4) _).trans (Ent.perm (by simpa using h5.symm))
  refine J_store (U := U) (l' := pre ++ cs.set q u ++ junk) 0 (fun w hw => hS w (hw.ent hE)) hx hy ht (by rw [hc, Nat.eq_of_beq_eq_true hsz]; rfl) (by rw [hc]; rfl) (by rw [hc]; exact hone) rfl ?_ rfl (J_ent hE h)
  rw [hc, repl_go _ _ _ _ (by simp; omega), ← hset]
  rfl
/-- A byte's value. -/
theorem u8_of_int {z : Int} (h0 : 0 ≤ z) (h1 : z < 256) : ∃ y : UInt8, Value.int .u8 z = u8 y := ⟨UInt8.ofNat z.toNat, by
  simp only [u8, UInt8.toNat_ofNat']
  congr 1
  omega⟩
theorem wrap_u8 (x : Int) : ∃ y : UInt8, Value.int .u8 (IntKind.u8.wrap x) = u8 y := by
  have h : IntKind.u8.wrap x = x % 256 := by simp [IntKind.wrap, IntKind.bits, IntKind.signed]
  rw [h]
  exact u8_of_int (by omega) (by omega)
theorem bV_set (l : List UInt8) (i : Nat) (y : UInt8) : (bV l).set i (u8 y) = bV (l.set i y) := by simp [bV, List.map_set]
end
/-- A contract's promise, weakened. -/
theorem Ctr.post {P : Program} {f : FuncId} {args : List Value} {Pre : List HP} {Post Post' : Value → List HP → Prop} (c : Ctr P f args Pre Post) (h : ∀ v H, Post v H → Post' v H) : Ctr P f args Pre Post' :=
  ⟨c.1, fun G w F hw => (c.2 G w F hw).mono fun e w' h' => let ⟨v, H, he, hp, hs⟩ := h'; ⟨v, H, he, h v H hp, hs⟩⟩
/-- A contract where more stands than it asks. -/
theorem Ctr.pre {P : Program} {f : FuncId} {args : List Value} {Pre Pre' : List HP} {Post : Value → List HP → Prop} (c : Ctr P f args Pre Post) (h : Ent Pre' Pre) : Ctr P f args Pre' Post :=
  ⟨c.1, fun G w F hw => c.2 G w F (hw.ent (Ent.append F h))⟩
/-- A proposition that tactics do not look into. -/
structure Hold (A : Prop) : Prop where
  out : A
end Go.SL
