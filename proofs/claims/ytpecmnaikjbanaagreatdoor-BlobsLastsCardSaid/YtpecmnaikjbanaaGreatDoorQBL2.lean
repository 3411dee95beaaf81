/- Texts of one claim, joined: EngD, EngE. -/
import Derived.Test.YtpecmnaikjbanaaGreatDoorQBL1
import Derived.IntWalk
import Derived.Laws.BytesString
import Derived.Laws.IdiomStrings
/- Engine, part D: operations on memory, arithmetic that must be in range, guards, calls. Nothing here names a program. -/
set_option linter.unusedVariables false
namespace Go.SL
inductive OutH where
 | mk (H : List HP)
 | no
def finH : List HP → List HP → OutH
 | [], l => .mk l
 | x :: acc, l => finH acc (x :: l)
def putP : Nat → HP → List HP → List HP → OutH
 | _, _, [], _ => .no
 | 0, A, _ :: l, acc => finH acc (A :: l)
 | i + 1, A, B :: l, acc => putP i A l (B :: acc)
theorem finH_eq (acc l r : List HP) (h : finH acc l = .mk r) : r = acc.reverse ++ l := by
 induction acc generalizing l with
 | nil => simp [finH] at h; simp [h]
 | cons x acc ih => have := ih (x :: l) h; simp [this]
theorem putP_eq (i : Nat) (A B : HP) (H acc r : List HP) (h : putP i A H acc = .mk r) (hB : getL H i = some B) : r.Perm (A :: (acc.reverse ++ H.eraseIdx i)) := by
 induction H generalizing i acc with
 | nil => cases i <;> simp [putP] at h
 | cons C l ih =>
  cases i with
  | zero =>
   simp only [putP] at h
   rw [finH_eq _ _ _ h]
   simp only [List.eraseIdx_cons_zero]
   exact List.perm_middle
  | succ i =>
   simp only [putP] at h
   simp only [getL] at hB
   have := ih i (C :: acc) h hB
   simpa using this
theorem Sat.put {G : Glob} {w : World} {H H' : List HP} {i : Nat} {b : Nat} {o o' : Obj} (hs : Sat G w H) (hi : getL H i = some (pts b o)) (hp : putP i (pts b o') H [] = .mk H') :
  Sat G { w with heap := w.heap.setIfInBounds b o' } H' := by
 have h1 := hs.set (o' := o') (i := i) (by rw [← getL_eq]; exact hi)
 have h2 := putP_eq i _ _ H [] H' hp hi
 exact h1.ent (Ent.perm (by simpa using h2.symm))
/-! ## reading -/
def hcell (h : Hp) (b off : Nat) : Option Value := match h b with
 | some (.cells c _ _) => c[off]?
 | _ => none
def Vw (A : HP) (v : Value) (n : Nat) (cs : List Value) : Prop :=
 ∃ a cap, v = .slice a n cap ∧ (cs = [] ∨ ∃ b o, a = some ⟨b, o, none⟩ ∧ ∀ h, A h → ∀ j c, cs[j]? = some c → hcell h b (o + j) = some c)
def slc (e : TypeId) (size : Nat) (v : Value) (n : Nat) (cs : List Value) : HP := fun h =>
 cs.length = n * size ∧ ((∃ a, v = .slice a 0 0 ∧ n = 0 ∧ emp h) ∨
  ∃ b o cap pre junk, v = .slice (some ⟨b, o, none⟩) n cap ∧ pre.length = o ∧ n ≤ cap ∧ cap * size ≤ cs.length + junk.length ∧ pts b (cl (pre ++ cs ++ junk) e) h)
theorem cell_of_hcell {h : Hp} {w : World} {b off : Nat} {v : Value} (hw : ∀ b o, h b = some o → w.heap[b]? = some o) (hc : hcell h b off = some v) : w.cell? ⟨b, off, none⟩ = some v := by
 unfold hcell at hc
 split at hc
 ·rename_i c e fr hb
  simp [World.cell?, hw b _ hb, hc]
 ·cases hc
theorem Sat.getA {G : Glob} {w : World} {H : List HP} (hs : Sat G w H) {i : Nat} {A : HP} (hi : getL H i = some A) : ∃ h : Hp, (∀ b o, h b = some o → w.heap[b]? = some o) ∧ A h := by
 rw [getL_eq] at hi
 exact (hs.ent (Ent.perm (perm_of_get hi))).head
theorem Sat.getP {G : Glob} {w : World} {H : List HP} (hs : Sat G w H) {i : Nat} {b : Nat} {o : Obj} (hi : getL H i = some (pts b o)) : w.heap[b]? = some o := by
 rw [getL_eq] at hi
 exact hs.get hi
def takeE : List Value → Nat → Nat → List Value → OutV
 | l, 0, 0, acc => let _ := l; finV acc []
 | x :: l, 0, m + 1, acc => takeE l 0 m (x :: acc)
 | _ :: l, i + 1, m, acc => takeE l i m acc
 | [], _, _, _ => .no
theorem takeE_eq : ∀ (l : List Value) (i m : Nat) (acc r : List Value), takeE l i m acc = .mk r → r = acc.reverse ++ (l.drop i).take m ∧ i + m ≤ l.length := by
 intro l
 induction l with
 | nil =>
  intro i m acc r h
  cases i with
  | zero => cases m with
   | zero => simp only [takeE] at h; have := finV_eq _ _ _ h; simp [this]
   | succ m => simp [takeE] at h
  | succ i => cases m <;> simp [takeE] at h
 | cons x l ih =>
  intro i m acc r h
  cases i with
  | zero => cases m with
   | zero => simp only [takeE] at h; have := finV_eq _ _ _ h; simp [this]
   | succ m =>
    simp only [takeE] at h
    obtain ⟨h1, h2⟩ := ih 0 m (x :: acc) r h
    simp at h1 h2
    exact ⟨by simp [h1], by simp; omega⟩
  | succ i =>
   have h' : takeE l i m acc = .mk r := by cases m <;> simpa [takeE] using h
   obtain ⟨h1, h2⟩ := ih i m acc r h'
   exact ⟨by simp [h1], by simp; omega⟩
section
variable {P : Program} {U : Tr} [hU : TabOk P U] {f : FuncId} {n : Nat} {R : Ending → World → Prop} {G : Glob} {k : List Item} {L : Lst} {H H' : List HP} {S : World → Prop} {all : Array Oper} {rest : Pl}
 {ty : TypeId} {pos : String} {af : Array Edge} {gd : Option (Nat × Bool)} {m : Bool} {d : Tmp}
theorem J_act {op : Op} (hd : Nat.blt d n = true) (q : Value → List HP → Prop)
  (hv : ∀ a w, Has n L a → Sat G w H → ∃ v w' H', (execOp a.eval ⟨some d, op, ty, pos, af, gd⟩).run P w = .ok (.value v) w' ∧ q v H' ∧ Sat G w' H')
  (hS : ∀ v H' w, q v H' → Sat G w H' → Sx rest S w)
  (h : ∀ v H', q v H' → J P f n R G S all rest k ((d, v) :: L) H') : J P f n R G S all (.cons false true ⟨some d, op, ty, pos, af, gd⟩ rest) k L H := by
 intro a w ha hw _
 obtain ⟨v, w', H', hr, hq, hw'⟩ := hv a w ha.1 hw
 refine .inl ⟨.inl rfl, .inr ⟨rfl, ?_⟩⟩
 exact wpIn_value hr ⟨hS v H' w' hq hw', h v H' hq _ w' (ha.put hd v) hw' (hS v H' w' hq hw')⟩
theorem J_act0 {op : Op} (q : List HP → Prop)
  (hv : ∀ a w, Has n L a → Sat G w H → ∃ w' H', (execOp a.eval ⟨none, op, ty, pos, af, gd⟩).run P w = .ok .skip w' ∧ q H' ∧ Sat G w' H')
  (hS : ∀ H' w, q H' → Sat G w H' → Sx rest S w)
  (h : ∀ H', q H' → J P f n R G S all rest k L H') : J P f n R G S all (.cons false true ⟨none, op, ty, pos, af, gd⟩ rest) k L H := by
 intro a w ha hw _
 obtain ⟨w', H', hr, hq, hw'⟩ := hv a w ha.1 hw
 refine .inl ⟨.inl rfl, .inr ⟨rfl, ?_⟩⟩
 exact wpIn_skip hr ⟨hS H' w' hq hw', h H' hq a w' ha hw' (hS H' w' hq hw')⟩
theorem J_read {op : Op} {v : Value} (hd : Nat.blt d n = true)
  (hv : ∀ a w, Has n L a → Sat G w H → (execOp a.eval ⟨some d, op, ty, pos, af, gd⟩).run P w = .ok (.value v) w)
  (h : J P f n R G S all rest k ((d, v) :: L) H) : J P f n R G S all (.cons false true ⟨some d, op, ty, pos, af, gd⟩ rest) k L H := by
 intro a w ha hw hS
 refine .inl ⟨.inl rfl, .inr ⟨rfl, ?_⟩⟩
 exact wpIn_value (hv a w ha.1 hw) ⟨Sx.of hS, h _ w (ha.put hd v) hw (Sx.of hS)⟩
theorem J_readS {op : Op} {v : Value} (hd : Nat.blt d n = true)
  (hv : ∀ a w, Has n L a → S w → (execOp a.eval ⟨some d, op, ty, pos, af, gd⟩).run P w = .ok (.value v) w)
  (h : J P f n R G S all rest k ((d, v) :: L) H) : J P f n R G S all (.cons true true ⟨some d, op, ty, pos, af, gd⟩ rest) k L H := by
 intro a w ha hw hS
 exact .inl ⟨.inl rfl, .inl ⟨rfl, v, fun w hw => hv a w ha.1 hw, h _ w (ha.put hd v) hw (Sx.of hS)⟩⟩
theorem run_loadAt {t : TypeId} {ty' : Ty} {b off : Nat} {v : Value} {w : World} (ht : U.get t = some ty') (hg : ty'.isAgg = false) (hc : w.cell? ⟨b, off, none⟩ = some v) :
  (Instr.loadAt t (.pointer (some ⟨b, off, none⟩))).run P w = .ok v w := by
 simp [Instr.loadAt, Instr.sureAddr, loadVar, run_isAgg ht, hg, hc]
theorem J_load {t : TypeId} {x : Operand} {b off : Nat} {ty' : Ty} {l : List Value} {e : TypeId} {v : Value} (i : Nat) (hd : Nat.blt d n = true)
  (hx : ev L x = some (.pointer (some ⟨b, off, none⟩))) (hi : getL H i = some (pts b (cl l e))) (hv : getL l off = some v) (ht : U.get t = some ty') (hg : ty'.isAgg = false)
  (h : J P f n R G S all rest k ((d, v) :: L) H) : J P f n R G S all (.cons false true ⟨some d, .load t x, ty, pos, af, gd⟩ rest) k L H :=
 J_read hd (fun a w ha hw => by
  have hc : w.cell? ⟨b, off, none⟩ = some v := by rw [cell_of_block (hw.getP hi), ← getL_eq]; exact hv
  simp [execOp, ha.ev hx, run_loadAt ht hg hc]) h
theorem J_loadS {t : TypeId} {x : Operand} {b off : Nat} {ty' : Ty} {v : Value} (hd : Nat.blt d n = true)
  (hx : ev L x = some (.pointer (some ⟨b, off, none⟩))) (hv : ∀ w, S w → w.cell? ⟨b, off, none⟩ = some v) (ht : U.get t = some ty') (hg : ty'.isAgg = false)
  (h : J P f n R G S all rest k ((d, v) :: L) H) : J P f n R G S all (.cons true true ⟨some d, .load t x, ty, pos, af, gd⟩ rest) k L H :=
 J_readS hd (fun a w ha hS => by simp [execOp, ha.ev hx, run_loadAt ht hg (hv w hS)]) h
theorem J_loadC {t : TypeId} {x : Operand} {b off : Nat} {ty' : Ty} {v : Value} (hd : Nat.blt d n = true)
  (hx : ev L x = some (.pointer (some ⟨b, off, none⟩))) (hv : ∀ w, Sat G w H → w.cell? ⟨b, off, none⟩ = some v) (ht : U.get t = some ty') (hg : ty'.isAgg = false)
  (h : J P f n R G S all rest k ((d, v) :: L) H) : J P f n R G S all (.cons false true ⟨some d, .load t x, ty, pos, af, gd⟩ rest) k L H :=
 J_read hd (fun a w ha hS => by simp [execOp, ha.ev hx, run_loadAt ht hg (hv w hS)]) h
theorem J_loadH {Hs : List HP} {t : TypeId} {x : Operand} {b off : Nat} {ty' : Ty} {l : List Value} {e : TypeId} {v : Value} (i : Nat) (hd : Nat.blt d n = true)
  (hx : ev L x = some (.pointer (some ⟨b, off, none⟩))) (hi : getL Hs i = some (pts b (cl l e))) (hv : getL l off = some v) (ht : U.get t = some ty') (hg : ty'.isAgg = false)
  (h : J P f n R G (fun w => Sat G w Hs) all rest k ((d, v) :: L) H) : J P f n R G (fun w => Sat G w Hs) all (.cons true true ⟨some d, .load t x, ty, pos, af, gd⟩ rest) k L H :=
 J_loadS (U := U) hd hx (fun w hw => by rw [cell_of_block (hw.getP hi), ← getL_eq]; exact hv) ht hg h
theorem run_loadAgg {t : TypeId} {ty' : Ty} {b off : Nat} {cs : List Value} {w : World} (ht : U.get t = some ty') (hg : ty'.isAgg = true) (hl : cs.length = ty'.info.size)
  (hc : ∀ j v, cs[j]? = some v → w.cell? ⟨b, off + j, none⟩ = some v) :
  (Instr.loadAt t (.pointer (some ⟨b, off, none⟩))).run P w = .ok (.agg cs.toArray) w := by
 have h1 := run_loadCells_list (P := P) w ⟨b, off, none⟩ cs (fun j v hj => by
  have := hc j v hj
  unfold Addr.add
  split
  ·rename_i h0; subst h0; simpa using this
  ·simpa using this)
 simp [Instr.loadAt, Instr.sureAddr, loadVar, run_isAgg ht, hg, run_sizeOf ht, ← hl, h1]
theorem J_loadAgg {t : TypeId} {x : Operand} {b off : Nat} {ty' : Ty} {l : List Value} {e : TypeId} {cs : List Value} (i : Nat) (hd : Nat.blt d n = true)
  (hx : ev L x = some (.pointer (some ⟨b, off, none⟩))) (hi : getL H i = some (pts b (cl l e))) (ht : U.get t = some ty') (hg : ty'.isAgg = true) (hv : takeE l off ty'.info.size [] = .mk cs)
  (h : J P f n R G S all rest k ((d, .agg cs.toArray) :: L) H) : J P f n R G S all (.cons false true ⟨some d, .load t x, ty, pos, af, gd⟩ rest) k L H :=
 J_read hd (fun a w ha hw => by
  obtain ⟨h1, h2⟩ := takeE_eq _ _ _ _ _ hv
  simp only [List.reverse_nil, List.nil_append] at h1
  have hc : ∀ j v, cs[j]? = some v → w.cell? ⟨b, off + j, none⟩ = some v := fun j v hj => by
   rw [cell_of_block (hw.getP hi)]
   rw [h1, List.getElem?_take] at hj
   split at hj
   ·simpa using hj
   ·cases hj
  have := run_loadAgg (P := P) ht hg (by rw [h1]; simp; omega) hc
  simp [execOp, ha.ev hx, this]) h
/-! ## writing -/
theorem run_storeCells {b : Nat} {e : TypeId} : ∀ (vs : List Value) (i off : Nat) (l : List Value) (w : World), w.heap[b]? = some (cl l e) → off + i + vs.length ≤ l.length → (∀ v ∈ vs, v.oneCell' = true) →
  (storeCells ⟨b, off, none⟩ vs i).run P w = .ok () { w with heap := w.heap.setIfInBounds b (cl (l.take (off + i) ++ vs ++ l.drop (off + i + vs.length)) e) }
 | [], i, off, l, w, hb, _, _ => by
  have : w.heap.setIfInBounds b (cl l e) = w.heap := by
   have hlt : b < w.heap.size := by
    rcases Nat.lt_or_ge b w.heap.size with h' | h'
    ·exact h'
    ·rw [Array.getElem?_eq_none h'] at hb; cases hb
   have hb' : w.heap[b] = cl l e := by rw [Array.getElem?_eq_getElem hlt] at hb; exact Option.some.inj hb
   rw [← hb']; simp [Array.setIfInBounds, hlt]
  simp [storeCells, this]
 | v :: vs, i, off, l, w, hb, hl, hone => by
  simp only [List.length_cons] at hl
  have hadd : (⟨b, off, none⟩ : Addr).add i = ⟨b, off + i, none⟩ := by
   unfold Addr.add; split
   ·rename_i h0; subst h0; rfl
   ·rfl
  have hcell : w.cell? ⟨b, off + i, none⟩ = some (l[off + i]'(by omega)) := by rw [cell_of_block hb]; simp
  have h1 : (store ((⟨b, off, none⟩ : Addr).add i) v).run P w = .ok () { w with heap := w.heap.setIfInBounds b (cl (l.set (off + i) v) e) } := by
   rw [hadd, run_store P w _ v .plain (hone v (by simp))]
   simp only [hcell, frozen_of_block hb, Bool.false_eq_true, if_false, setCell_of_block hb]
  have hlt : b < w.heap.size := by
   rcases Nat.lt_or_ge b w.heap.size with h' | h'
   ·exact h'
   ·rw [Array.getElem?_eq_none h'] at hb; cases hb
  have ih := run_storeCells (b := b) (e := e) vs (i + 1) off (l.set (off + i) v) { w with heap := w.heap.setIfInBounds b (cl (l.set (off + i) v) e) } (by simp [hlt]) (by simp; omega) (fun u hu => hone u (by simp [hu]))
  simp only [storeCells, Sem.run_bind, h1, Result.andThen_ok, ih]
  congr 1
  simp only [Array.setIfInBounds_setIfInBounds]
  congr 2
  have hlt2 : off + i < l.length := by omega
  rw [List.set_eq_take_append_cons_drop, if_pos hlt2]
  have e1 : (List.take (off + i) l ++ v :: List.drop (off + i + 1) l).take (off + (i + 1)) = List.take (off + i) l ++ [v] := by
   rw [show off + (i + 1) = off + i + 1 by omega, List.take_append]
   simp only [List.length_take]
   rw [show min (off + i) l.length = off + i by omega]
   simp [List.take_take, show off + i + 1 - (off + i) = 1 by omega]
  have e2 : (List.take (off + i) l ++ v :: List.drop (off + i + 1) l).drop (off + (i + 1) + vs.length) = List.drop (off + i + (vs.length + 1)) l := by
   rw [List.drop_append]
   simp only [List.length_take]
   rw [show min (off + i) l.length = off + i by omega, List.drop_of_length_le (by simp; omega)]
   rw [show off + (i + 1) + vs.length - (off + i) = vs.length + 1 by omega]
   simp [show off + i + 1 + vs.length = off + i + (vs.length + 1) by omega]
  rw [e1, e2]
  simp
def allOne : List Value → Bool
 | [] => true
 | v :: vs => v.oneCell' && allOne vs
theorem allOne_spec {vs : List Value} (h : allOne vs = true) : ∀ v ∈ vs, v.oneCell' = true := by
 induction vs with
 | nil => intro v hv; cases hv
 | cons u vs ih =>
  simp only [allOne, Bool.and_eq_true] at h
  intro v hv
  rcases List.mem_cons.1 hv with rfl | hv
  ·exact h.1
  ·exact ih h.2 v hv
theorem repl_splice {z r vs : List Value} {i : Nat} (h : repl [] i z vs = .mk r) (hv : vs ≠ []) : r = z.take i ++ vs ++ z.drop (i + vs.length) ∧ i + vs.length ≤ z.length := by
 obtain ⟨h1, h2, _⟩ := repl_eq _ _ _ _ _ h
 exact ⟨by simpa using h2 hv, by simpa [hv] using h1⟩
theorem J_store {t : TypeId} {x y : Operand} {b off : Nat} {ty' : Ty} {l l' : List Value} {e : TypeId} {v : Value} (i : Nat)
  (hS : ∀ w, Sat G w H' → Sx rest S w)
  (hx : ev L x = some (.pointer (some ⟨b, off, none⟩))) (hy : ev L y = some v) (ht : U.get t = some ty') (hsz : Nat.beq (cellsL v).length ty'.info.size = true) (hne : Nat.beq (cellsL v).length 0 = false) (hone : allOne (cellsL v) = true)
  (hi : getL H i = some (pts b (cl l e))) (hl : repl [] off l (cellsL v) = .mk l') (hp : putP i (pts b (cl l' e)) H [] = .mk H')
  (h : J P f n R G S all rest k L H') : J P f n R G S all (.cons false true ⟨none, .store t x y, ty, pos, af, gd⟩ rest) k L H := by
 refine J_act0 (fun H1 => H1 = H') (fun a w ha hw => ?_) (fun H1 w e hw => hS w (e ▸ hw)) (fun H1 e => e ▸ h)
 have hne' : cellsL v ≠ [] := fun e => by rw [e] at hne; cases hne
 obtain ⟨h1, h2⟩ := repl_splice hl hne'
 have hr := run_storeCells (P := P) (cellsL v) 0 off l w (hw.getP hi) (by simpa using h2) (allOne_spec hone)
 simp only [Nat.add_zero, ← h1] at hr
 refine ⟨_, H', ?_, rfl, hw.put hi hp⟩
 have hsz' : v.cells.size = ty'.info.size := by rw [cellsL_eq]; simpa using Nat.eq_of_beq_eq_true hsz
 have hcl : v.cells.toList = cellsL v := by rw [cellsL_eq]
 simp only [execOp, ha.ev hx, ha.ev hy, Instr.storeAt, Instr.sureAddr, Sem.run_bind, Sem.run_pure, Result.andThen_ok, storeVar, run_sizeOf ht]
 rw [if_neg (by simp [hsz'])]
 simp only [hcl, hr, Result.andThen_ok]
/-! ## new memory -/
theorem J_box {elem : TypeId} {x : Operand} {v : Value} (hd : Nat.blt d n = true) (hx : ev L x = some v)
  (hS : ∀ b w, Sat G w (pts b (cl (cellsL v) elem) :: H) → Sx rest S w)
  (h : ∀ b, J P f n R G S all rest k ((d, .pointer (some ⟨b, 0, none⟩)) :: L) (pts b (cl (cellsL v) elem) :: H)) :
  J P f n R G S all (.cons false true ⟨some d, .box elem x, ty, pos, af, gd⟩ rest) k L H := by
 refine J_act hd (fun u H1 => ∃ b, u = .pointer (some ⟨b, 0, none⟩) ∧ H1 = pts b (cl (cellsL v) elem) :: H) (fun a w ha hw => ?_) ?_ ?_
 ·refine ⟨_, _, _, ?_, ⟨w.heap.size, rfl, rfl⟩, hw.alloc _⟩
  simp [execOp, ha.ev hx, Instr.box, newVar, newRow, cellsL_eq, cl]
 ·rintro u H1 w ⟨b, rfl, rfl⟩ hw; exact hS b w hw
 ·rintro u H1 ⟨b, rfl, rfl⟩; exact h b
theorem J_alloc {elem : TypeId} {ty' : Ty} {z : Value} (hd : Nat.blt d n = true) (ht : U.get elem = some ty') (hz : ty'.info.zero = some z)
  (hS : ∀ b w, Sat G w (pts b (cl (cellsL z) elem) :: H) → Sx rest S w)
  (h : ∀ b, J P f n R G S all rest k ((d, .pointer (some ⟨b, 0, none⟩)) :: L) (pts b (cl (cellsL z) elem) :: H)) :
  J P f n R G S all (.cons false true ⟨some d, .alloc elem, ty, pos, af, gd⟩ rest) k L H := by
 refine J_act hd (fun u H1 => ∃ b, u = .pointer (some ⟨b, 0, none⟩) ∧ H1 = pts b (cl (cellsL z) elem) :: H) (fun a w ha hw => ?_) ?_ ?_
 ·refine ⟨_, _, _, ?_, ⟨w.heap.size, rfl, rfl⟩, hw.alloc _⟩
  simp [execOp, Instr.alloc, run_zeroValue ht hz, newVar, newRow, cellsL_eq, cl]
 ·rintro u H1 w ⟨b, rfl, rfl⟩ hw; exact hS b w hw
 ·rintro u H1 ⟨b, rfl, rfl⟩; exact h b
theorem J_makeMap {t : TypeId} (hd : Nat.blt d n = true)
  (hS : ∀ b w, Sat G w (pts b (.map #[] 0) :: H) → Sx rest S w)
  (h : ∀ b, J P f n R G S all rest k ((d, .map (some b)) :: L) (pts b (.map #[] 0) :: H)) :
  J P f n R G S all (.cons false true ⟨some d, .makeMap t none, ty, pos, af, gd⟩ rest) k L H := by
 refine J_act hd (fun u H1 => ∃ b, u = .map (some b) ∧ H1 = pts b (.map #[] 0) :: H) (fun a w ha hw => ?_) ?_ ?_
 ·refine ⟨_, _, _, ?_, ⟨w.heap.size, rfl, rfl⟩, hw.alloc _⟩
  simp [execOp, Instr.makeMap]
 ·rintro u H1 w ⟨b, rfl, rfl⟩ hw; exact hS b w hw
 ·rintro u H1 ⟨b, rfl, rfl⟩; exact h b
/-! ## a slice out of its parts -/
def repE (z : List Value) : Nat → List Value → List Value
 | 0, acc => acc
 | i + 1, acc => repE z i (z ++ acc)
def buildS (L : Lst) (size : Nat) : List Value → List (Nat × Operand) → OutV
 | z, [] => .mk z
 | z, (i, x) :: ps => match ev L x with
  | some v => bif Nat.beq (cellsL v).length 0 then .no else bif Nat.beq (cellsL v).length size then
    (match repl [] (i * size) z (cellsL v) with
    | .mk z' => buildS L size z' ps
    | .no => .no) else .no
  | none => .no
theorem buildS_fill {a : Act} (ha : Has n L a) (size : Nat) (ps : List (Nat × Operand)) : ∀ (z r : List Value), buildS L size z ps = .mk r →
  Instr.fill (fun i => some (i * size, size)) z.toArray (ps.map fun x => (x.1, a.eval x.2)) = some r.toArray := by
 induction ps with
 | nil => intro z r h; simp only [buildS] at h; cases h; rfl
 | cons p ps ih =>
  obtain ⟨i, x⟩ := p
  intro z r h
  simp only [buildS] at h
  split at h
  ·rename_i u hu
   cases hb0 : Nat.beq (cellsL u).length 0 with
   | true => simp [hb0] at h
   | false =>
   simp only [hb0, cond_false] at h
   cases hb : Nat.beq (cellsL u).length size with
   | false => simp [hb] at h
   | true =>
    simp only [hb, cond_true] at h
    split at h
    ·rename_i z' hz'
     have hr := ih z' r h
     simp only [List.map_cons, Instr.fill, ha.ev hu]
     have hlen : (cellsL u).length = size := Nat.eq_of_beq_eq_true hb
     have he : cellsL u ≠ [] := fun e => by rw [e] at hb0; cases hb0
     obtain ⟨h4, h1⟩ := repl_splice hz' he
     have hsz : u.cells.size = size := by rw [cellsL_eq]; simpa using hlen
     rw [if_neg (by simp [hsz]; rw [← hlen]; rw [← hlen] at h1; exact h1)]
     have := foldl_put (cellsL u) 0 (i * size) z.toArray (by simpa using h1)
     simp only [Nat.add_zero] at this
     have e : ((cellsL u).toArray.zipIdx.foldl (fun cs (x : Value × Nat) => cs.setIfInBounds (i * size + x.2) x.1) z.toArray) = z'.toArray := by
      apply Array.ext'
      rw [this, h4]
     rw [cellsL_eq]
     rw [show ((cellsL u).toArray.zipIdx.foldl (fun cs (x : Value × Nat) => match x with | (c, j) => cs.setIfInBounds (i * size + j) c) z.toArray) = z'.toArray from e]
     exact hr
    ·cases h
  ·cases h
theorem J_buildSlice1 {t elem : TypeId} {ty' te : Ty} {z : Value} {len : Nat} {parts : Array (Nat × Operand)} {cs : List Value} (hd : Nat.blt d n = true)
  (ht : U.get t = some ty') (hu : ty'.und = .slice elem) (he : U.get elem = some te) (hz : te.info.zero = some z) (hsz : Nat.beq (cellsL z).length te.info.size = true) (hpos : Nat.blt 0 te.info.size = true) (hsmall : Nat.ble (len * te.info.size) 16777216 = true)
  (hb : buildS L te.info.size (repE (cellsL z) len []) parts.toList = .mk cs)
  (hS : ∀ b w, Sat G w (pts b (cl cs elem) :: H) → Sx rest S w)
  (h : ∀ b, J P f n R G S all rest k ((d, .slice (some ⟨b, 0, none⟩) len len) :: L) (pts b (cl cs elem) :: H)) :
  J P f n R G S all (.cons false true ⟨some d, .buildSlice t len parts, ty, pos, af, gd⟩ rest) k L H := by
 have hsz' : (cellsL z).length = te.info.size := Nat.eq_of_beq_eq_true hsz
 have hpos' : 0 < te.info.size := by simpa [Nat.blt_eq] using hpos
 have hrep : ∀ (i : Nat) (acc : List Value), repE (cellsL z) i acc = (List.replicate i (cellsL z)).flatten ++ acc := by
  intro i
  induction i with
  | zero => intro acc; simp [repE]
  | succ i ih =>
   intro acc
   rw [repE, ih]
   rw [List.replicate_succ']
   simp
 have hmap : ((Array.range (len * te.info.size)).map fun i => z.cells[i % z.cells.size]!) = (repE (cellsL z) len []).toArray := by
  apply Array.ext'
  rw [hrep]
  simp only [Array.toList_map, Array.toList_range, List.append_nil]
  have hcs : z.cells.size = te.info.size := by rw [cellsL_eq]; simpa using hsz'
  rw [hcs]
  clear hsmall hb h hS
  induction len with
  | zero => simp
  | succ len ih =>
   rw [List.replicate_succ', List.flatten_append, ← ih]
   rw [Nat.succ_mul, List.range_add, List.map_append]
   congr 1
   simp only [List.map_map, List.flatten_cons, List.flatten_nil, List.append_nil]
   apply List.ext_getElem?
   intro j
   by_cases hj : j < te.info.size
   ·simp only [List.getElem?_map, List.getElem?_range hj, Option.map_some, Function.comp]
    rw [Nat.mul_comm, Nat.mul_add_mod, Nat.mod_eq_of_lt hj]
    rw [cellsL_eq]
    have : j < (cellsL z).length := by omega
    simp [this]
   ·rw [List.getElem?_eq_none (by simp; omega), List.getElem?_eq_none (by omega)]
 refine J_act hd (fun u H1 => ∃ b, u = .slice (some ⟨b, 0, none⟩) len len ∧ H1 = pts b (cl cs elem) :: H) (fun a w ha hw => ?_) ?_ ?_
 ·refine ⟨_, _, _, ?_, ⟨w.heap.size, rfl, rfl⟩, hw.alloc _⟩
  have hf := buildS_fill ha _ _ _ _ hb
  have hle : ¬ len * te.info.size > 2 ^ 24 := by have := Nat.le_of_ble_eq_true hsmall; omega
  simp only [execOp, Instr.buildSlice, Sem.run_bind, run_underlying ht, Result.andThen_ok, hu, run_sizeOf he, if_neg hle, Sem.run_pure]
  by_cases h0 : len * te.info.size = 0
  ·have hl0 : len = 0 := by
    rcases Nat.eq_zero_or_pos len with h | h
    ·exact h
    ·exact absurd h0 (Nat.ne_of_gt (Nat.mul_pos h hpos'))
   subst hl0
   have hf0 : Instr.fill (fun i => some (i * te.info.size, te.info.size)) #[] (parts.toList.map fun x => (x.1, a.eval x.2)) = some cs.toArray := by simpa [repE] using hf
   have hm0 : ((Array.range 0).map fun i => (#[] : Array Value)[i % (#[] : Array Value).size]!) = #[] := by simp
   simp only [Nat.zero_mul, if_true, pure_bind, hm0, Array.toList_map]
   rw [show (List.map (fun x : Nat × Operand => match x with | (i, x) => (i, a.eval x)) parts.toList) = parts.toList.map (fun x => (x.1, a.eval x.2)) from rfl, hf0]
   simp [newRow, cl]
  ·simp only [if_neg h0, Sem.run_bind, run_zeroValue he hz, Sem.run_pure, Result.andThen_ok, hmap, Array.toList_map]
   rw [show (List.map (fun x : Nat × Operand => match x with | (i, x) => (i, a.eval x)) parts.toList) = parts.toList.map (fun x => (x.1, a.eval x.2)) from rfl, hf]
   simp [newRow, cl]
 ·rintro u H1 w ⟨b, rfl, rfl⟩ hw; exact hS b w hw
 ·rintro u H1 ⟨b, rfl, rfl⟩; exact h b
/-! ## what stands next (these turn nothing; they let a walk choose its next step at once) -/
theorem J_isG {o : Oper} (h : J P f n R G S all (.cons m false o rest) k L H) : J P f n R G S all (.cons m false o rest) k L H := h
theorem J_isPick {c x y : Operand} (h : J P f n R G S all (.cons m true ⟨some d, .pick c x y, ty, pos, af, gd⟩ rest) k L H) : J P f n R G S all (.cons m true ⟨some d, .pick c x y, ty, pos, af, gd⟩ rest) k L H := h
theorem J_isBin {op : BinOp} {t t' : TypeId} {x y : Operand} (h : J P f n R G S all (.cons m true ⟨some d, .binOp op t x y t', ty, pos, af, gd⟩ rest) k L H) : J P f n R G S all (.cons m true ⟨some d, .binOp op t x y t', ty, pos, af, gd⟩ rest) k L H := h
theorem J_isLoad {t : TypeId} {x : Operand} (h : J P f n R G S all (.cons m true ⟨some d, .load t x, ty, pos, af, gd⟩ rest) k L H) : J P f n R G S all (.cons m true ⟨some d, .load t x, ty, pos, af, gd⟩ rest) k L H := h
theorem J_isStore {t : TypeId} {x y : Operand} (h : J P f n R G S all (.cons m true ⟨none, .store t x y, ty, pos, af, gd⟩ rest) k L H) : J P f n R G S all (.cons m true ⟨none, .store t x y, ty, pos, af, gd⟩ rest) k L H := h
theorem J_isConv {t t' : TypeId} {x : Operand} (h : J P f n R G S all (.cons m true ⟨some d, .convert t t' x, ty, pos, af, gd⟩ rest) k L H) : J P f n R G S all (.cons m true ⟨some d, .convert t t' x, ty, pos, af, gd⟩ rest) k L H := h
/-! ## guards, choices, tests -/
theorem J_guardT {o : Oper} {j t : Nat} {oj : Oper} {b : Bool} (hg : o.guard = some (j, b)) (hj : getL all.toList j = some oj) (ht : oj.dst = some t) (hb : fget L t = some (.bool b))
  (h : J P f n R G S all (.cons m true o rest) k L H) : J P f n R G S all (.cons m false o rest) k L H := by
 intro a w ha hw hS
 have h1 := h a w ha hw (Sx.of hS)
 have hj' : all[j]? = some oj := by rw [getL_eq] at hj; simpa using hj
 have hw' : Region.wanted o (yielded all a.tmps) = true := by
  simp only [Region.wanted, hg, yielded, hj', Option.bind_some, ht, ha.get hb]
  simp
 rcases h1 with ⟨_, h1⟩ | ⟨hf, _⟩
 ·exact .inl ⟨.inr hw', h1⟩
 ·cases hf
theorem J_guardF {o : Oper} {j t : Nat} {oj : Oper} {b c : Bool} (hd : o.dst = some d) (hdn : Nat.blt d n = true) (hg : o.guard = some (j, b)) (hj : getL all.toList j = some oj) (ht : oj.dst = some t) (hb : fget L t = some (.bool c)) (hbc : (c == b) = false)
  (h : J P f n R G S all rest k ((d, undef) :: L) H) : J P f n R G S all (.cons m false o rest) k L H := by
 intro a w ha hw hS
 have hj' : all[j]? = some oj := by rw [getL_eq] at hj; simpa using hj
 have hw' : Region.wanted o (yielded all a.tmps) = false := by
  simp only [Region.wanted, hg, yielded, hj', Option.bind_some, ht, ha.get hb]
  simpa using hbc
 exact .inr ⟨rfl, hw', by rw [hd]; exact h _ w (ha.put hdn undef) hw (Sx.of hS)⟩
theorem J_guardF0 {o : Oper} {j t : Nat} {oj : Oper} {b c : Bool} (hd : o.dst = none) (hg : o.guard = some (j, b)) (hj : getL all.toList j = some oj) (ht : oj.dst = some t) (hb : fget L t = some (.bool c)) (hbc : (c == b) = false)
  (h : J P f n R G S all rest k L H) : J P f n R G S all (.cons m false o rest) k L H := by
 intro a w ha hw hS
 have hj' : all[j]? = some oj := by rw [getL_eq] at hj; simpa using hj
 have hw' : Region.wanted o (yielded all a.tmps) = false := by
  simp only [Region.wanted, hg, yielded, hj', Option.bind_some, ht, ha.get hb]
  simpa using hbc
 exact .inr ⟨rfl, hw', by rw [hd]; exact h a w ha hw (Sx.of hS)⟩
theorem J_guardU {o : Oper} {j t : Nat} {oj : Oper} {b : Bool} (hd : o.dst = some d) (hdn : Nat.blt d n = true) (hg : o.guard = some (j, b)) (hj : getL all.toList j = some oj) (ht : oj.dst = some t) (hb : fget L t = some undef)
  (h : J P f n R G S all rest k ((d, undef) :: L) H) : J P f n R G S all (.cons m false o rest) k L H := by
 intro a w ha hw hS
 have hj' : all[j]? = some oj := by rw [getL_eq] at hj; simpa using hj
 have hw' : Region.wanted o (yielded all a.tmps) = false := by
  simp only [Region.wanted, hg, yielded, hj', Option.bind_some, ht, ha.get hb, undef]
  rfl
 exact .inr ⟨rfl, hw', by rw [hd]; exact h _ w (ha.put hdn undef) hw (Sx.of hS)⟩
theorem J_pickT {c x y : Operand} {v : Value} (hd : Nat.blt d n = true) (hc : ev L c = some (.bool true)) (hx : ev L x = some v)
  (h : J P f n R G S all rest k ((d, v) :: L) H) : J P f n R G S all (.cons m true ⟨some d, .pick c x y, ty, pos, af, gd⟩ rest) k L H :=
 J_pure hd (fun a ha w => by simp [execOp, ha.ev hc, ha.ev hx, asBool]) h
theorem J_pickF {c x y : Operand} {v : Value} (hd : Nat.blt d n = true) (hc : ev L c = some (.bool false)) (hy : ev L y = some v)
  (h : J P f n R G S all rest k ((d, v) :: L) H) : J P f n R G S all (.cons m true ⟨some d, .pick c x y, ty, pos, af, gd⟩ rest) k L H :=
 J_pure hd (fun a ha w => by simp [execOp, ha.ev hc, ha.ev hy, asBool]) h
theorem J_split (t : Nat) {b : Bool} (hb : fget L t = some (.bool b)) (ht : b = true → J P f n R G S all rest k ((t, .bool true) :: L) H) (hf : b = false → J P f n R G S all rest k ((t, .bool false) :: L) H) :
  J P f n R G S all rest k L H := by
 have hs : ∀ c : Bool, b = c → ∀ s v, fget ((t, .bool c) :: L) s = some v → fget L s = some v := by
  rintro c rfl s v e
  simp only [fget] at e
  cases hst : Nat.beq t s with
  | true => simp only [hst, cond_true] at e; rw [← Nat.eq_of_beq_eq_true hst, hb]; exact e
  | false => simpa only [hst, cond_false] using e
 cases b with
 | true => exact J_sub (hs true rfl) (ht rfl)
 | false => exact J_sub (hs false rfl) (hf rfl)
theorem J_splitP (t : Nat) {p : Prop} [Decidable p] (hb : fget L t = some (.bool (decide p))) (ht : p → J P f n R G S all rest k ((t, .bool true) :: L) H) (hf : ¬ p → J P f n R G S all rest k ((t, .bool false) :: L) H) :
  J P f n R G S all rest k L H := J_split t hb (fun h => ht (of_decide_eq_true h)) (fun h => hf (of_decide_eq_false h))
theorem J_gsP {o : Oper} {j t : Nat} {oj : Oper} {p : Prop} [Decidable p] {b : Bool} (hg : o.guard = some (j, b)) (hj : getL all.toList j = some oj) (ht : oj.dst = some t) (hb : fget L t = some (.bool (decide p)))
  (h1 : p → J P f n R G S all (.cons m false o rest) k ((t, .bool true) :: L) H) (h2 : ¬ p → J P f n R G S all (.cons m false o rest) k ((t, .bool false) :: L) H) : J P f n R G S all (.cons m false o rest) k L H := J_splitP t hb h1 h2
theorem J_slot (t : Nat) {u : Value} (v : Value) (hb : fget L t = some u) (huv : u = v) (h : J P f n R G S all rest k ((t, v) :: L) H) : J P f n R G S all rest k L H := by
 subst huv
 refine J_sub (fun s x e => ?_) h
 simp only [fget] at e
 cases hst : Nat.beq t s with
 | true => simp only [hst, cond_true] at e; rw [← Nat.eq_of_beq_eq_true hst, hb]; exact e
 | false => simpa only [hst, cond_false] using e
theorem K_slot (t : Nat) {u : Value} (v : Value) (hb : fget L t = some u) (huv : u = v) (h : K P f n R G k ((t, v) :: L) H) : K P f n R G k L H := by
 subst huv
 refine K_sub (fun s x e => ?_) h
 simp only [fget] at e
 cases hst : Nat.beq t s with
 | true => simp only [hst, cond_true] at e; rw [← Nat.eq_of_beq_eq_true hst, hb]; exact e
 | false => simpa only [hst, cond_false] using e
/-! ## arithmetic in range -/
def inK : IntKind → Int → Prop
 | .i8, x => -128 ≤ x ∧ x ≤ 127
 | .i16, x => -32768 ≤ x ∧ x ≤ 32767
 | .i32, x => -2147483648 ≤ x ∧ x ≤ 2147483647
 | .i64, x => -9223372036854775808 ≤ x ∧ x ≤ 9223372036854775807
 | .u8, x => 0 ≤ x ∧ x ≤ 255
 | .u16, x => 0 ≤ x ∧ x ≤ 65535
 | .u32, x => 0 ≤ x ∧ x ≤ 4294967295
 | .u64, x => 0 ≤ x ∧ x ≤ 18446744073709551615
theorem wrap_in {j : IntKind} {x : Int} (h : inK j x) : j.wrap x = x := by
 cases j <;> simp only [inK] at h <;> simp [IntKind.wrap, IntKind.bits, IntKind.signed] <;> (try split) <;> omega
theorem J_add {t yt : TypeId} {x y : Operand} {j : IntKind} {p q : Int} (hd : Nat.blt d n = true) (hx : ev L x = some (.int j p)) (hy : ev L y = some (.int j q)) (hr : inK j (p + q))
  (h : J P f n R G S all rest k ((d, .int j (p + q)) :: L) H) : J P f n R G S all (.cons m true ⟨some d, .binOp .add t x y yt, ty, pos, af, gd⟩ rest) k L H :=
 J_pure hd (fun a ha w => by simp [execOp, ha.ev hx, ha.ev hy, eqGuard, binOp, Op.intArith, wrap_in hr]) h
theorem J_sub' {t yt : TypeId} {x y : Operand} {j : IntKind} {p q : Int} (hd : Nat.blt d n = true) (hx : ev L x = some (.int j p)) (hy : ev L y = some (.int j q)) (hr : inK j (p - q))
  (h : J P f n R G S all rest k ((d, .int j (p - q)) :: L) H) : J P f n R G S all (.cons m true ⟨some d, .binOp .sub t x y yt, ty, pos, af, gd⟩ rest) k L H :=
 J_pure hd (fun a ha w => by simp [execOp, ha.ev hx, ha.ev hy, eqGuard, binOp, Op.intArith, wrap_in hr]) h
theorem J_mul {t yt : TypeId} {x y : Operand} {j : IntKind} {p q : Int} (hd : Nat.blt d n = true) (hx : ev L x = some (.int j p)) (hy : ev L y = some (.int j q)) (hr : inK j (p * q))
  (h : J P f n R G S all rest k ((d, .int j (p * q)) :: L) H) : J P f n R G S all (.cons m true ⟨some d, .binOp .mul t x y yt, ty, pos, af, gd⟩ rest) k L H :=
 J_pure hd (fun a ha w => by simp [execOp, ha.ev hx, ha.ev hy, eqGuard, binOp, Op.intArith, wrap_in hr]) h
theorem J_addW {t yt : TypeId} {x y : Operand} {j : IntKind} {p q : Int} (hd : Nat.blt d n = true) (hx : ev L x = some (.int j p)) (hy : ev L y = some (.int j q))
  (h : J P f n R G S all rest k ((d, .int j (j.wrap (p + q))) :: L) H) : J P f n R G S all (.cons m true ⟨some d, .binOp .add t x y yt, ty, pos, af, gd⟩ rest) k L H :=
 J_pure hd (fun a ha w => by simp [execOp, ha.ev hx, ha.ev hy, eqGuard, binOp, Op.intArith]) h
theorem J_mulW {t yt : TypeId} {x y : Operand} {j : IntKind} {p q : Int} (hd : Nat.blt d n = true) (hx : ev L x = some (.int j p)) (hy : ev L y = some (.int j q))
  (h : J P f n R G S all rest k ((d, .int j (j.wrap (p * q))) :: L) H) : J P f n R G S all (.cons m true ⟨some d, .binOp .mul t x y yt, ty, pos, af, gd⟩ rest) k L H :=
 J_pure hd (fun a ha w => by simp [execOp, ha.ev hx, ha.ev hy, eqGuard, binOp, Op.intArith]) h
theorem J_rem {t yt : TypeId} {x y : Operand} {j : IntKind} {p q : Int} (hd : Nat.blt d n = true) (hx : ev L x = some (.int j p)) (hy : ev L y = some (.int j q)) (hp : 0 ≤ p) (hq : 0 < q)
  (h : J P f n R G S all rest k ((d, .int j (p % q)) :: L) H) : J P f n R G S all (.cons m true ⟨some d, .binOp .rem t x y yt, ty, pos, af, gd⟩ rest) k L H :=
 J_pure hd (fun a ha w => by
  have h0 : ¬ q = 0 := by omega
  simp [execOp, ha.ev hx, ha.ev hy, eqGuard, binOp, Op.intDiv, h0, Int.tmod_eq_emod_of_nonneg hp]) h
theorem J_quo {t yt : TypeId} {x y : Operand} {j : IntKind} {p q : Int} (hd : Nat.blt d n = true) (hx : ev L x = some (.int j p)) (hy : ev L y = some (.int j q)) (hp : 0 ≤ p) (hq : 0 < q) (hr : inK j (p / q))
  (h : J P f n R G S all rest k ((d, .int j (p / q)) :: L) H) : J P f n R G S all (.cons m true ⟨some d, .binOp .quo t x y yt, ty, pos, af, gd⟩ rest) k L H :=
 J_pure hd (fun a ha w => by
  have h0 : ¬ q = 0 := by omega
  simp [execOp, ha.ev hx, ha.ev hy, eqGuard, binOp, Op.intDiv, h0, Int.tdiv_eq_ediv_of_nonneg hp, wrap_in hr]) h
theorem J_shr {t yt : TypeId} {x y : Operand} {j j' : IntKind} {p q : Int} (hd : Nat.blt d n = true) (hx : ev L x = some (.int j p)) (hy : ev L y = some (.int j' q)) (hq : 0 ≤ q)
  (h : J P f n R G S all rest k ((d, .int j (p / 2 ^ (min q.toNat j.bits))) :: L) H) : J P f n R G S all (.cons m true ⟨some d, .binOp .shr t x y yt, ty, pos, af, gd⟩ rest) k L H :=
 J_pure hd (fun a ha w => by
  have h0 : ¬ q < 0 := by omega
  have hpos : (0 : Int) ≤ 2 ^ (min q.toNat j.bits) := Int.le_of_lt (Int.pow_pos (by omega))
  simp [execOp, ha.ev hx, ha.ev hy, eqGuard, binOp, Op.shift, h0, Int.fdiv_eq_ediv_of_nonneg p hpos]) h
theorem J_shlW {t yt : TypeId} {x y : Operand} {j j' : IntKind} {p q : Int} (hd : Nat.blt d n = true) (hx : ev L x = some (.int j p)) (hy : ev L y = some (.int j' q)) (hq : 0 ≤ q)
  (h : J P f n R G S all rest k ((d, .int j (j.wrap (p * 2 ^ (min q.toNat j.bits)))) :: L) H) : J P f n R G S all (.cons m true ⟨some d, .binOp .shl t x y yt, ty, pos, af, gd⟩ rest) k L H :=
 J_pure hd (fun a ha w => by
  have h0 : ¬ q < 0 := by omega
  simp [execOp, ha.ev hx, ha.ev hy, eqGuard, binOp, Op.shift, h0]) h
theorem J_conv {src dst : TypeId} {ts td : Ty} {x : Operand} {j j' jd : IntKind} {p : Int} (hd : Nat.blt d n = true) (hx : ev L x = some (.int j p)) (hs : U.get src = some ts) (hsu : ts.und = .int j') (hdt : U.get dst = some td) (hdu : td.und = .int jd) (hr : inK jd p)
  (h : J P f n R G S all rest k ((d, .int jd p) :: L) H) : J P f n R G S all (.cons m true ⟨some d, .convert src dst x, ty, pos, af, gd⟩ rest) k L H :=
 J_pure hd (fun a ha w => by simp [execOp, ha.ev hx, convert, run_underlying hs, run_underlying hdt, hsu, hdu, Conv.intToInt, wrap_in hr]) h
theorem J_convW {src dst : TypeId} {ts td : Ty} {x : Operand} {j j' jd : IntKind} {p : Int} (hd : Nat.blt d n = true) (hx : ev L x = some (.int j p)) (hs : U.get src = some ts) (hsu : ts.und = .int j') (hdt : U.get dst = some td) (hdu : td.und = .int jd)
  (h : J P f n R G S all rest k ((d, .int jd (jd.wrap p)) :: L) H) : J P f n R G S all (.cons m true ⟨some d, .convert src dst x, ty, pos, af, gd⟩ rest) k L H :=
 J_pure hd (fun a ha w => by simp [execOp, ha.ev hx, convert, run_underlying hs, run_underlying hdt, hsu, hdu, Conv.intToInt]) h
/-! ## calls -/
theorem run_callFunc {g : FuncId} {vs : Array Value} {w : World} (h : P.funcs[g]?.map callable = some true) : (callFunc g vs).run P w = .ok (.enter g vs) w := by
 cases hf : P.funcs[g]? with
 | none => rw [hf] at h; cases h
 | some fn =>
  rw [hf] at h
  simp only [Option.map_some, Option.some.injEq, callable, Bool.and_eq_true, Bool.not_eq_true'] at h
  have h1 : fn.body.isNone = false := by cases hb : fn.body <;> simp_all
  simp only [callFunc, Sem.run_bind, run_program, Result.andThen_ok, hf, h.2, h1, Bool.false_eq_true, if_false, Sem.run_pure]
theorem J_call {fo : Operand} {args : Array Operand} {tys : Array TypeId} {g : FuncId} {cap : Array Value} {vs : List Value} {Pre Fr : List HP} {Post : Value → List HP → Prop} (is : List Nat) (hd : Nat.blt d n = true)
  (hf : ev L fo = some (.func (.func g) #[] cap)) (hargs : evs L args.toList [] = .mk vs) {as : List Value} (has : as = vs ++ cap.toList) (c : Ctr P g as Pre Post) (hp : pickE is [] H [] = .mk Pre Fr)
  (hS : ∀ v H' w, Post v H' → Sat G w (H' ++ Fr) → Sx rest S w)
  (h : ∀ v H', Post v H' → J P f n R G S all rest k ((d, v) :: L) (H' ++ Fr)) :
  J P f n R G S all (.cons false true ⟨some d, .call { callee := .value fo, args := args, argTypes := tys }, ty, pos, af, gd⟩ rest) k L H := by
 intro a w ha hw _
 refine .inl ⟨.inl rfl, .inr ⟨rfl, ?_⟩⟩
 have hr : (execOp a.eval ⟨some d, .call { callee := .value fo, args := args, argTypes := tys }, ty, pos, af, gd⟩).run P w = .ok (.enter g as.toArray) w := by
  simp only [execOp, resolve, Sem.run_bind, ha.ev hf, Deferred.ofValue, Sem.run_pure, Result.andThen_ok, invoke]
  rw [run_callFunc c.1, evs_arr ha.1 _ _ hargs, has]
  congr 2
  simp
 refine wpIn_call (fun c hc => by cases hc) hr (Calls.mono (c.2 G w Fr (hw.pick is hp)) ?_)
 rintro e w' ⟨v, H', rfl, hpost, hw'⟩
 exact ⟨v, rfl, hS v H' w' hpost hw', h v H' hpost _ w' (ha.put hd v) hw' (hS v H' w' hpost hw')⟩
end
end Go.SL
/- Engine, part E: slices: views, cuts, places, copy, append, make; bytes and strings. Nothing here names a program. -/
set_option linter.unusedSimpArgs false
namespace Go.SL
/-! ## views -/
theorem Vw.of_slc (e : TypeId) (size : Nat) (v : Value) (n : Nat) (cs : List Value) (h0 : ∃ h, slc e size v n cs h) : Vw (slc e size v n cs) v n cs := by
 obtain ⟨h, hl, ⟨a, rfl, rfl, _⟩ | ⟨b, o, cap, pre, junk, rfl, hp, hn, hc, _⟩⟩ := h0
 ·exact ⟨a, 0, rfl, .inl (List.eq_nil_of_length_eq_zero (by simpa using hl))⟩
 ·refine ⟨_, cap, rfl, .inr ⟨b, o, rfl, fun h hA j c hj => ?_⟩⟩
  obtain ⟨_, ⟨a, hv, _, _⟩ | ⟨b', o', cap', pre', junk', hv, hp', _, _, hpts⟩⟩ := hA
  ·simp only [Value.slice.injEq] at hv
   obtain ⟨_, rfl, rfl⟩ := hv
   have : cs = [] := List.eq_nil_of_length_eq_zero (by simpa using hl)
   subst this; simp at hj
  ·simp only [Value.slice.injEq, Option.some.injEq, Addr.mk.injEq, and_true, true_and] at hv
   obtain ⟨⟨rfl, rfl⟩, rfl⟩ := hv
   unfold hcell
   rw [hpts b, if_pos rfl]
   simp only [cl]
   rw [← hp']
   have hlt : j < cs.length := by
    rcases Nat.lt_or_ge j cs.length with h | h
    ·exact h
    ·rw [List.getElem?_eq_none h] at hj; cases hj
   rw [List.getElem?_toArray, List.append_assoc, List.getElem?_append_right (by omega), show pre'.length + j - pre'.length = j by omega, List.getElem?_append_left hlt]
   exact hj
theorem Vw.pts {b : Nat} {l : List Value} {e : TypeId} {o n cap : Nat} {cs : List Value} (h : (l.drop o).take cs.length = cs) : Vw (pts b (cl l e)) (.slice (some ⟨b, o, none⟩) n cap) n cs := by
 refine ⟨_, cap, rfl, .inr ⟨b, o, rfl, fun h' hA j c hj => ?_⟩⟩
 unfold hcell
 rw [hA b, if_pos rfl]
 simp only [cl]
 rw [← h, List.getElem?_take] at hj
 split at hj
 ·simpa using hj
 ·cases hj
theorem Vw.nil (A : HP) (a : Option Addr) (cap : Nat) : Vw A (.slice a 0 cap) 0 [] := ⟨a, cap, rfl, .inl rfl⟩
theorem Vw.mono {A B : HP} {v : Value} {n : Nat} {cs : List Value} (h : Vw A v n cs) (hAB : ∀ h, B h → ∃ h', sub h' h ∧ A h') : Vw B v n cs := by
 obtain ⟨a, cap, hv, h0 | ⟨b, o, ha, hc⟩⟩ := h
 ·exact ⟨a, cap, hv, .inl h0⟩
 ·refine ⟨a, cap, hv, .inr ⟨b, o, ha, fun h hB j c hj => ?_⟩⟩
  obtain ⟨h', hs, hA⟩ := hAB h hB
  have := hc h' hA j c hj
  unfold hcell at this ⊢
  split at this
  ·rename_i x y z hb; rw [hs b _ hb]; exact this
  ·cases this
theorem Vw.cells {A : HP} {v : Value} {n : Nat} {cs : List Value} (h : Vw A v n cs) {G : Glob} {w : World} {H : List HP} (hw : Sat G w H) {i : Nat} (hi : getL H i = some A) :
  ∃ a cap, v = .slice a n cap ∧ (cs = [] ∨ ∃ b o, a = some ⟨b, o, none⟩ ∧ ∀ j c, cs[j]? = some c → w.cell? ⟨b, o + j, none⟩ = some c) := by
 obtain ⟨a, cap, hv, h0 | ⟨b, o, ha, hc⟩⟩ := h
 ·exact ⟨a, cap, hv, .inl h0⟩
 ·obtain ⟨h, hh, hA⟩ := hw.getA hi
  exact ⟨a, cap, hv, .inr ⟨b, o, ha, fun j c hj => cell_of_hcell hh (hc h hA j c hj)⟩⟩
theorem Addr.add_eq (b o i : Nat) : (⟨b, o, none⟩ : Addr).add i = ⟨b, o + i, none⟩ := by
 unfold Addr.add; split
 ·rename_i h; subst h; rfl
 ·rfl
section
variable {P : Program} {U : Tr} [hU : TabOk P U] {f : FuncId} {n : Nat} {R : Ending → World → Prop} {G : Glob} {k : List Item} {L : Lst} {H H' : List HP} {S : World → Prop} {all : Array Oper} {rest : Pl}
 {ty : TypeId} {pos : String} {af : Array Edge} {gd : Option (Nat × Bool)} {m : Bool} {d : Tmp}
theorem run_first {A : HP} {v : Value} {nn size : Nat} {cs : List Value} {w : World} {i : Nat} (hv : Vw A v nn cs) (hw : Sat G w H) (hi : getL H i = some A) (hl : cs.length = nn * size) :
  (Builtin.firstCells size nn v).run P w = .ok cs.toArray w := by
 obtain ⟨a, cap, rfl, h0 | ⟨b, o, rfl, hc⟩⟩ := hv.cells hw hi
 ·subst h0
  have h0 : nn * size = 0 := by simpa using hl.symm
  cases a with
  | none => simp [Builtin.firstCells]
  | some a => simp [Builtin.firstCells, h0, loadCells, loadCellsFrom]
 ·have := run_loadCells_list (P := P) w ⟨b, o, none⟩ cs (fun j c hj => by rw [Addr.add_eq]; exact hc j c hj)
  rw [hl] at this
  simp [Builtin.firstCells, this]
theorem run_firstN {A : HP} {v : Value} {nn size q : Nat} {cs : List Value} {w : World} {i : Nat} (hv : Vw A v nn cs) (hw : Sat G w H) (hi : getL H i = some A) (hl : cs.length = nn * size) (hq : q ≤ nn) :
  (Builtin.firstCells size q v).run P w = .ok (cs.take (q * size)).toArray w := by
 obtain ⟨a, cap, rfl, h0 | ⟨b, o, rfl, hc⟩⟩ := hv.cells hw hi
 ·subst h0
  have h0 : nn * size = 0 := by simpa using hl.symm
  have h1 : q * size = 0 := by have := Nat.mul_le_mul_right size hq; omega
  cases a with
  | none => simp [Builtin.firstCells]
  | some a => simp [Builtin.firstCells, h1, loadCells, loadCellsFrom]
 ·have h2 : (cs.take (q * size)).length = q * size := by rw [List.length_take, hl]; exact Nat.min_eq_left (Nat.mul_le_mul_right size hq)
  have := run_loadCells_list (P := P) w ⟨b, o, none⟩ (cs.take (q * size)) (fun j c hj => by
   rw [Addr.add_eq]
   rw [List.getElem?_take] at hj
   split at hj
   ·exact hc j c hj
   ·cases hj)
  rw [h2] at this
  simp [Builtin.firstCells, this]
/-! ## append onto a slice that has its row for itself -/
theorem slc_nil (e : TypeId) (size : Nat) (a : Option Addr) : ∀ h, emp h → slc e size (.slice a 0 0) 0 [] h := fun h he => ⟨by simp, .inl ⟨a, rfl, rfl, he⟩⟩
theorem take_drop_splice (pre cs junk news : List Value) (o : Nat) (ho : pre.length = o) :
  (pre ++ cs ++ junk).take (o + cs.length) ++ news ++ (pre ++ cs ++ junk).drop (o + cs.length + news.length) = pre ++ (cs ++ news) ++ junk.drop news.length := by
 subst ho
 have h1 : (pre ++ cs ++ junk).take (pre.length + cs.length) = pre ++ cs := by
  rw [show pre.length + cs.length = (pre ++ cs).length by simp]; exact List.take_left
 have h2 : (pre ++ cs ++ junk).drop (pre.length + cs.length + news.length) = junk.drop news.length := by
  rw [show pre.length + cs.length = (pre ++ cs).length by simp]; rw [List.drop_append]; simp
 rw [h1, h2]; simp
theorem run_append {t t2 elem : TypeId} {ty' t2' te : Ty} {z v v2 : Value} {nn mm : Nat} {cs news : List Value} {A : HP} {rty : TypeId} {w : World} (i j : Nat)
    (ht : U.get t = some ty') (hu : ty'.und = .slice elem) (h2 : U.get t2 = some t2') (h2n : ∀ q, t2'.und ≠ .int q) (he : U.get elem = some te) (hz : te.info.zero = some z) (hzs : (cellsL z).length = te.info.size)
    (hw : Sat G w H) (hi : getL H i = some (slc elem te.info.size v nn cs)) (hj : getL H j = some A) (hv2 : Vw A v2 mm news) (hl2 : news.length = mm * te.info.size) (hone : ∀ u ∈ news, u.oneCell' = true)
    (hmax : nn + mm ≤ 9223372036854775807) (hbytes : (nn + mm) * te.info.bytes ≤ 140737488355328) :
    ∃ v' w', (Builtin.append_ #[t, t2] rty #[v, v2]).run P w = .ok v' w' ∧ (∀ H', putP i (slc elem te.info.size v' (nn + mm) (cs ++ news)) H [] = .mk H' → Sat G w' H') := by
  have hpick : ∀ B H', putP i B H [] = .mk H' → H'.Perm (B :: H.eraseIdx i) := fun B H' hp => by simpa using putP_eq i _ _ H [] H' hp hi
  have hslc : ∃ h, slc elem te.info.size v nn cs h := by obtain ⟨h, _, hA⟩ := hw.getA hi; exact ⟨h, hA⟩
  have hvw := Vw.of_slc _ _ _ _ _ hslc
  have hfirst2 := run_first (P := P) hv2 hw hj hl2
  obtain ⟨a2, c2, hv2', _⟩ := hv2
  subst hv2'
  have hsat := hw.ent (Ent.perm (perm_of_get (by rw [← getL_eq]; exact hi)))
  obtain ⟨hT, hO, hU', hh, hsub, h1, h2h, hA1, hB2, hdis, hjoin⟩ := hsat
  obtain ⟨hl, hcase⟩ := hA1
  have hzeros : ∀ {w : World}, (underlying t2).run P w = .ok t2'.und w := fun {w} => run_underlying h2 w
  have hnz : (t2'.und matches .int _) = false := by
    cases hq : t2'.und <;> first | rfl | exact absurd hq (h2n _)
  have hfirst1 := run_first (P := P) hvw hw hi hl
  by_cases hroom : ∃ a cap, v = .slice a nn cap ∧ nn + mm ≤ cap
  · obtain ⟨a, cap, rfl, hroom⟩ := hroom
    rcases hcase with ⟨a', hv, hn0, hemp⟩ | ⟨b, o, cap', pre, junk, hv, hp, hn, hc, hpts⟩
    · simp only [Value.slice.injEq] at hv
      obtain ⟨rfl, rfl, rfl⟩ := hv
      have hm0 : mm = 0 := by omega
      subst hm0
      have hcs : cs = [] := List.eq_nil_of_length_eq_zero (by simpa using hl)
      have hnews : news = [] := List.eq_nil_of_length_eq_zero (by simpa using hl2)
      subst hcs; subst hnews
      refine ⟨.slice a 0 0, w, ?_, fun H' hp => ?_⟩
      · cases a with
        | none => simp [Builtin.append_, run_underlying ht, hu, run_sizeOf he, hzeros, hnz, Builtin.lenOf, hfirst2]
        | some a => simp [Builtin.append_, run_underlying ht, hu, run_sizeOf he, hzeros, hnz, Builtin.lenOf, hfirst2, storeCells]
      · refine (show Sat G w (slc elem te.info.size (.slice a 0 0) 0 [] :: H.eraseIdx i) from ?_).ent (Ent.perm (hpick _ _ hp).symm)
        exact ⟨hT, hO, hU', hh, hsub, h1, h2h, ⟨hl, .inl ⟨a, rfl, rfl, hemp⟩⟩, hB2, hdis, hjoin⟩
    · simp only [Value.slice.injEq] at hv
      obtain ⟨rfl, _, rfl⟩ := hv
      have hfit : news.length ≤ junk.length := by
        have h3 : (nn + mm) * te.info.size ≤ cap * te.info.size := Nat.mul_le_mul_right _ hroom
        rw [Nat.add_mul, ← hl, ← hl2] at h3
        omega
      have hb : w.heap[b]? = some (cl (pre ++ cs ++ junk) elem) := by
        refine hsub b _ ?_
        rw [hjoin b, hpts b]; simp
      have hst := run_storeCells (P := P) news 0 (o + nn * te.info.size) (pre ++ cs ++ junk) w hb (by simp; omega) hone
      simp only [Nat.add_zero] at hst
      rw [← hl, take_drop_splice pre cs junk news o hp] at hst
      refine ⟨.slice (some ⟨b, o, none⟩) (nn + mm) cap, { w with heap := w.heap.setIfInBounds b (cl (pre ++ (cs ++ news) ++ junk.drop news.length) elem) }, ?_, fun H' hp' => ?_⟩
      · rw [hl] at hst
        simp [Builtin.append_, run_underlying ht, hu, run_sizeOf he, hzeros, hnz, Builtin.lenOf, hroom, hfirst2, Addr.add_eq, hst]
      · have h4 := Sat.set0 (o' := cl (pre ++ (cs ++ news) ++ junk.drop news.length) elem) (show Sat G w (pts b (cl (pre ++ cs ++ junk) elem) :: H.eraseIdx i) from ⟨hT, hO, hU', hh, hsub, h1, h2h, hpts, hB2, hdis, hjoin⟩)
        refine (h4.ent ?_).ent (Ent.perm (hpick _ _ hp').symm)
        refine Ent.fold (B := [_]) fun h hs => ⟨h, sub.refl h, ?_⟩
        refine ⟨by simp [hl, hl2, Nat.add_mul], .inr ⟨b, o, cap, pre, _, rfl, hp, hroom, ?_, Sep_one hs⟩⟩
        simp; omega
  · have hvs : ∃ a cap, v = .slice a nn cap := by obtain ⟨a, cap, hv, _⟩ := hvw; exact ⟨a, cap, hv⟩
    obtain ⟨a, cap, rfl⟩ := hvs
    have hgt : ¬ nn + mm ≤ cap := fun h => hroom ⟨a, cap, rfl, h⟩
    have hgs := growslice_fits (need := nn + mm) (old := cap) (bytes := te.info.bytes) (by omega) hbytes
    have hge := grownCap_ge w (nn + mm) cap elem
    have hzc : z.cells = (cellsL z).toArray := cellsL_eq z
    refine ⟨.slice (some ⟨w.heap.size, 0, none⟩) (nn + mm) (grownCap w (nn + mm) cap elem), w.drew.alloc (cl (cs ++ news ++ (Builtin.zeroCells z.cells (grownCap w (nn + mm) cap elem - (nn + mm))).toList) elem), ?_, fun H' hp' => ?_⟩
    · have hl1 := run_first (P := P) (G := G) (w := w.drew) hvw (hw.draw _) hi hl
      have hl2' := run_first (P := P) (G := G) (w := w.drew) ⟨a2, c2, rfl, by assumption⟩ (hw.draw _) hj hl2
      have hnomax : ¬ ((9223372036854775807 : Int) < (nn : Int) + (mm : Int)) := by omega
      have hgs' : ¬ 281474976710656 < Builtin.nextslicecap (nn + mm) cap * te.info.bytes := by omega
      simp [Builtin.append_, run_underlying ht, hu, run_sizeOf he, hzeros, hnz, Builtin.lenOf, hgt, hnomax, hgs', Question.forced, run_typeInfo he, run_zeroValue he hz, newRow, hl1, hl2', grownCap, cl]
      congr 2
      apply Array.ext'
      simp
    · have h5 : Sat G (w.drew.alloc (cl (cs ++ news ++ (Builtin.zeroCells z.cells (grownCap w (nn + mm) cap elem - (nn + mm))).toList) elem))
          (pts w.heap.size (cl (cs ++ news ++ (Builtin.zeroCells z.cells (grownCap w (nn + mm) cap elem - (nn + mm))).toList) elem) :: H.eraseIdx i) := by
        have h6 : Sat G w (H.eraseIdx i) := (hw.ent (Ent.perm (perm_of_get (by rw [← getL_eq]; exact hi)))).ent (Ent.drop _ _)
        exact Sat.alloc (w := w.drew) (h6.draw _) _
      refine (h5.ent ?_).ent (Ent.perm (hpick _ _ hp').symm)
      refine Ent.fold (B := [_]) fun h hs => ⟨h, sub.refl h, ?_⟩
      refine ⟨by simp [hl, hl2, Nat.add_mul], .inr ⟨w.heap.size, 0, _, [], _, rfl, rfl, hge, ?_, by simpa using Sep_one hs⟩⟩
      have h7 : (Builtin.zeroCells z.cells (grownCap w (nn + mm) cap elem - (nn + mm))).size = (grownCap w (nn + mm) cap elem - (nn + mm)) * te.info.size := by rw [size_zeroCells, hzc]; simp [hzs]
      rw [List.length_append, hl, hl2, Array.length_toList, h7, ← Nat.add_mul, ← Nat.add_mul]
      exact Nat.le_of_eq (by congr 1; omega)
theorem J_append {x y : Operand} {t t2 elem : TypeId} {ty' t2' te : Ty} {z v v2 : Value} {nn mm : Nat} {cs news : List Value} {A : HP} (i j : Nat) (hd : Nat.blt d n = true)
  (hx : ev L x = some v) (hy : ev L y = some v2) (ht : U.get t = some ty') (hu : ty'.und = .slice elem) (h2 : U.get t2 = some t2') (h2n : (match t2'.und with | .int _ => false | _ => true) = true) (he : U.get elem = some te) (hz : te.info.zero = some z) (hzs : Nat.beq (cellsL z).length te.info.size = true)
  (hi : getL H i = some (slc elem te.info.size v nn cs)) (hj : getL H j = some A) (hv2 : Vw A v2 mm news) (hl2 : news.length = mm * te.info.size) (hone : ∀ u ∈ news, u.oneCell' = true)
  (hmax : nn + mm ≤ 9223372036854775807) (hbytes : (nn + mm) * te.info.bytes ≤ 140737488355328) {Hf : Value → List HP} (hp : ∀ v', putP i (slc elem te.info.size v' (nn + mm) (cs ++ news)) H [] = .mk (Hf v'))
  (hS : ∀ v' w, Sat G w (Hf v') → Sx rest S w)
  (h : ∀ v', J P f n R G S all rest k ((d, v') :: L) (Hf v')) :
  J P f n R G S all (.cons false true ⟨some d, .call { callee := .builtin .append, args := #[x, y], argTypes := #[t, t2] }, ty, pos, af, gd⟩ rest) k L H := by
 refine J_act hd (fun u H1 => H1 = Hf u) (fun a w ha hw => ?_) ?_ ?_
 ·obtain ⟨v', w', hr, hs⟩ := run_append (P := P) (rty := ty) i j ht hu h2 (fun q e => by rw [e] at h2n; cases h2n) he hz (Nat.eq_of_beq_eq_true hzs) hw hi hj hv2 hl2 hone hmax hbytes
  refine ⟨v', w', _, ?_, rfl, hs _ (hp v')⟩
  simp [execOp, resolve, invoke, builtin, ha.ev hx, ha.ev hy, hr]
 ·rintro u H1 w rfl hw; exact hS u w hw
 ·rintro u H1 rfl; exact h u
/-! ## copy, into a row that is told -/
theorem J_copy {x y : Operand} {t t2 elem : TypeId} {ty' te : Ty} {v2 : Value} {b o dl dc mm : Nat} {l src l' : List Value} {e : TypeId} {A : HP} (i j : Nat) (hd : Nat.blt d n = true)
  (hx : ev L x = some (.slice (some ⟨b, o, none⟩) dl dc)) (hy : ev L y = some v2) (ht : U.get t = some ty') (hu : ty'.und = .slice elem) (he : U.get elem = some te)
  (hi : getL H i = some (pts b (cl l e))) (hj : getL H j = some A) (hv2 : Vw A v2 mm src) (hl2 : src.length = mm * te.info.size) (hone : ∀ u ∈ src, u.oneCell' = true)
  (hfit : o + (min mm dl) * te.info.size ≤ l.length) (hl' : l' = l.take o ++ src.take (min mm dl * te.info.size) ++ l.drop (o + min mm dl * te.info.size)) (hp : putP i (pts b (cl l' e)) H [] = .mk H')
  (hS : ∀ w, Sat G w H' → Sx rest S w)
  (h : J P f n R G S all rest k ((d, .int .i64 (min mm dl : Nat)) :: L) H') :
  J P f n R G S all (.cons false true ⟨some d, .call { callee := .builtin .copy, args := #[x, y], argTypes := #[t, t2] }, ty, pos, af, gd⟩ rest) k L H := by
 refine J_act hd (fun u H1 => u = .int .i64 (min mm dl : Nat) ∧ H1 = H') (fun a w ha hw => ?_) ?_ ?_
 ·have hf := run_firstN (P := P) (q := min mm dl) hv2 hw hj hl2 (Nat.min_le_left _ _)
  obtain ⟨a2, c2, hv', _⟩ := hv2
  subst hv'
  have h3 : (src.take (min mm dl * te.info.size)).length = min mm dl * te.info.size := by rw [List.length_take, hl2]; exact Nat.min_eq_left (Nat.mul_le_mul_right _ (Nat.min_le_left _ _))
  have hst := run_storeCells (P := P) (src.take (min mm dl * te.info.size)) 0 o l w (hw.getP hi) (by rw [h3]; simpa using hfit) (fun u hu => hone u (List.mem_of_mem_take hu))
  simp only [Nat.add_zero, h3, ← hl'] at hst
  refine ⟨_, _, H', ?_, ⟨rfl, rfl⟩, hw.put hi hp⟩
  simp only [execOp, resolve, invoke, builtin, Sem.run_bind, Sem.run_pure, Result.andThen_ok, List.map_toArray, List.map_cons, List.map_nil, ha.ev hx, ha.ev hy, Builtin.copy_, List.getElem?_toArray, List.getElem?_cons_zero, List.getElem?_cons_succ,
   run_underlying ht, hu, Builtin.lenOf, run_sizeOf he]
  rw [show Nat.min mm dl = min mm dl from rfl]
  simp only [hf, Result.andThen_ok, hst, goInt]
 ·rintro u H1 w ⟨rfl, rfl⟩ hw; exact hS w hw
 ·rintro u H1 ⟨rfl, rfl⟩; exact h
/-! ## make -/
theorem J_makeSlice {x y : Operand} {t elem : TypeId} {ty' te : Ty} {z : Value} {p q : Nat} (hd : Nat.blt d n = true)
  (hx : ev L x = some (.int .i64 (p : Int))) (hy : ev L y = some (.int .i64 (q : Int))) (ht : U.get t = some ty') (hu : ty'.und = .slice elem) (he : U.get elem = some te) (hz : te.info.zero = some z) (hzs : Nat.beq (cellsL z).length 1 = true) (hzs1 : Nat.beq te.info.size 1 = true)
  (hpq : p ≤ q) (hmax : q ≤ 9223372036854775807) (hbytes : te.info.bytes * q ≤ 281474976710656)
  (hS : ∀ b w, Sat G w (pts b (cl (List.replicate q ((cellsL z).headD undef)) elem) :: H) → Sx rest S w)
  (h : ∀ b, J P f n R G S all rest k ((d, .slice (some ⟨b, 0, none⟩) p q) :: L) (pts b (cl (List.replicate q ((cellsL z).headD undef)) elem) :: H)) :
  J P f n R G S all (.cons false true ⟨some d, .makeSlice t x y, ty, pos, af, gd⟩ rest) k L H := by
 refine J_act hd (fun u H1 => ∃ b, u = .slice (some ⟨b, 0, none⟩) p q ∧ H1 = pts b (cl (List.replicate q ((cellsL z).headD undef)) elem) :: H) (fun a w ha hw => ?_) ?_ ?_
 ·refine ⟨_, _, _, ?_, ⟨w.heap.size, rfl, rfl⟩, hw.alloc _⟩
  have h1 : te.info.size = 1 := Nat.eq_of_beq_eq_true hzs1
  have h2 : (cellsL z).length = 1 := Nat.eq_of_beq_eq_true hzs
  obtain ⟨u, hu1⟩ : ∃ u, cellsL z = [u] := List.length_eq_one_iff.1 h2
  have wq : IntKind.i64.wrap (q : Int) = q := wrap_in (by simp only [inK]; omega)
  have wp : IntKind.i64.wrap (p : Int) = p := wrap_in (by simp only [inK]; omega)
  have hb : ¬ ((281474976710656 : Int) < (te.info.bytes : Int) * (q : Int)) := by omega
  have hpq' : ¬ ((q : Int) < (p : Int)) := by omega
  have hcells : z.cells = #[u] := by rw [cellsL_eq, hu1]
  have hq0 : ¬ ((q : Int) < 0) := by omega
  have hp0 : ¬ ((p : Int) < 0) := by omega
  by_cases h0 : q = 0
  ·subst h0
   have hp00 : p = 0 := by omega
   subst hp00
   have w0 : IntKind.i64.wrap 0 = 0 := wrap_in (by simp only [inK]; omega)
   simp [execOp, ha.ev hx, ha.ev hy, Instr.makeSlice, run_underlying ht, hu, asInt, asIntOf, run_typeInfo he, w0, run_sizeOf he, h1, newRow, cl]
   congr 2
   apply Array.ext'
   simp
  ·have hcs : (Array.range q).map (fun i => (#[u] : Array Value)[i % (#[u] : Array Value).size]!) = (List.replicate q u).toArray := by
    apply Array.ext'
    simp only [Array.toList_map, Array.toList_range]
    apply List.ext_getElem?
    intro j
    by_cases hj : j < q
    ·simp [hj, List.getElem?_replicate, Nat.mod_one]
    ·simp [List.getElem?_eq_none, Nat.le_of_not_lt hj]
   have hrun : (Instr.makeSlice t (.int .i64 (p : Int)) (.int .i64 (q : Int))).run P w = .ok (.slice (some ⟨w.heap.size, 0, none⟩) p q) { w with heap := w.heap.push (.cells (List.replicate q u).toArray elem) } := by
    unfold Instr.makeSlice
    simp only [Sem.run_bind, run_underlying ht, Result.andThen_ok, hu, asInt, asIntOf, Sem.run_pure, run_typeInfo he, wp, wq]
    rw [if_neg (by simp [hb, hpq'])]
    simp only [pure_bind, Sem.run_bind, run_askRoom, Result.andThen_ok, run_sizeOf he, h1, Nat.mul_one, Int.toNat_natCast, h0, if_false, run_zeroValue he hz, Sem.run_pure, hcells, hcs, newRow, run_newObj]
   simp only [execOp, ha.ev hx, ha.ev hy, Sem.run_bind, hrun, Result.andThen_ok, Sem.run_pure, hu1, List.headD_cons, cl]
 ·rintro u H1 w ⟨b, rfl, rfl⟩ hw; exact hS b w hw
 ·rintro u H1 ⟨b, rfl, rfl⟩; exact h b
/-! ## cutting a slice; a place in it -/
def lowV (L : Lst) : Option Operand → Option Int
 | none => some 0
 | some x => match ev L x with
  | some (.int _ l) => some l
  | _ => none
def highV (L : Lst) (len : Nat) : Option Operand → Option Int
 | none => some (len : Int)
 | some x => match ev L x with
  | some (.int _ l) => some l
  | _ => none
theorem run_bounds {lo hi : Option Operand} {len cap : Nat} {p q : Int} {a : Act} {w : World} (isSlice : Bool) (ha : Has n L a) (hlo : lowV L lo = some p) (hhi : highV L len hi = some q) (h0 : 0 ≤ p) (hpq : p ≤ q) (hqc : hi = none ∨ q ≤ (cap : Int)) :
  (Instr.sliceBounds isSlice len cap (lo.map a.eval) (hi.map a.eval) none).run P w = .ok (p.toNat, q.toNat, cap) w := by
 have hh : (match hi.map a.eval with | some v => Instr.sliceBound v cap (if isSlice then .sliceAcap else .sliceAlen) | none => pure len : Sem Nat).run P w = .ok q.toNat w := by
  cases hi with
  | none => simp only [highV, Option.some.injEq] at hhi; subst hhi; simp
  | some x =>
   simp only [highV] at hhi
   split at hhi
   ·rename_i j l hx
    cases hhi
    simp only [Option.map_some, ha.ev hx, Instr.sliceBound, asIntOf, Sem.run_bind, Sem.run_pure, Result.andThen_ok]
    rw [if_pos ⟨by omega, hqc.resolve_left (by simp)⟩]; rfl
   ·cases hhi
 have hl : (match lo.map a.eval with | some v => Instr.sliceBound v q.toNat .sliceB | none => pure 0 : Sem Nat).run P w = .ok p.toNat w := by
  cases lo with
  | none => simp only [lowV, Option.some.injEq] at hlo; subst hlo; simp
  | some x =>
   simp only [lowV] at hlo
   split at hlo
   ·rename_i j l hx
    cases hlo
    simp only [Option.map_some, ha.ev hx, Instr.sliceBound, asIntOf, Sem.run_bind, Sem.run_pure, Result.andThen_ok]
    rw [if_pos ⟨h0, by omega⟩]; rfl
   ·cases hlo
 unfold Instr.sliceBounds
 cases hi with
 | none =>
  cases lo with
  | none => simp at hh hl ⊢; exact ⟨hl.symm ▸ rfl, hh⟩
  | some x => simp at hh hl ⊢; simp [hl, hh]
 | some y =>
  cases lo with
  | none => simp at hh hl ⊢; simp [hl, hh]
  | some x => simp at hh hl ⊢; simp [hl, hh]
theorem J_slice {t elem : TypeId} {ty' te : Ty} {x : Operand} {lo hi : Option Operand} {b o len cap : Nat} {p q : Int} (hd : Nat.blt d n = true)
  (ht : U.get t = some ty') (hu : ty'.und = .slice elem) (he : U.get elem = some te) (hx : ev L x = some (.slice (some ⟨b, o, none⟩) len cap)) (hlo : lowV L lo = some p) (hhi : highV L len hi = some q) (h0 : 0 ≤ p) (hpq : p ≤ q) (hqc : hi = none ∨ q ≤ (cap : Int))
  (h : ∀ o', (p.toNat ≠ cap → o' = o + p.toNat * te.info.size) → (p.toNat = cap → o' = o) → J P f n R G S all rest k ((d, .slice (some ⟨b, o', none⟩) (q.toNat - p.toNat) (cap - p.toNat)) :: L) H) :
  J P f n R G S all (.cons m true ⟨some d, .slice t x lo hi none, ty, pos, af, gd⟩ rest) k L H := by
 refine J_pure hd (v := .slice (some ⟨b, if p.toNat = cap then o else o + p.toNat * te.info.size, none⟩) (q.toNat - p.toNat) (cap - p.toNat)) (fun a ha w => ?_) (h _ (fun e => if_neg e) (fun e => if_pos e))
 have hr := run_bounds (P := P) (w := w) true ha hlo hhi h0 hpq hqc
 simp only [execOp, ha.ev hx, Instr.sliceAt, Sem.run_bind, run_underlying ht, Result.andThen_ok, hu, Instr.slice, Option.map_none, hr, run_sizeOf he, Sem.run_pure]
 by_cases hc : p.toNat = cap
 ·simp [hc]
 ·simp only [if_neg hc, if_neg (Ne.symm hc), Option.map_some, Addr.add_eq]
def sliceAt (a0 : Option Addr) (cap p size : Nat) : Option Addr := if p = cap then a0 else a0.map fun a => a.add (p * size)
theorem J_sliceAny {t elem : TypeId} {ty' te : Ty} {x : Operand} {lo hi : Option Operand} {a0 : Option Addr} {len cap : Nat} {p q : Int} (hd : Nat.blt d n = true)
  (ht : U.get t = some ty') (hu : ty'.und = .slice elem) (he : U.get elem = some te) (hx : ev L x = some (.slice a0 len cap)) (hlo : lowV L lo = some p) (hhi : highV L len hi = some q) (h0 : 0 ≤ p) (hpq : p ≤ q) (hqc : hi = none ∨ q ≤ (cap : Int))
  (h : J P f n R G S all rest k ((d, .slice (sliceAt a0 cap p.toNat te.info.size) (q.toNat - p.toNat) (cap - p.toNat)) :: L) H) :
  J P f n R G S all (.cons m true ⟨some d, .slice t x lo hi none, ty, pos, af, gd⟩ rest) k L H := by
 refine J_pure hd (fun a ha w => ?_) h
 have hr := run_bounds (P := P) (w := w) true ha hlo hhi h0 hpq hqc
 simp only [execOp, ha.ev hx, Instr.sliceAt, Sem.run_bind, run_underlying ht, Result.andThen_ok, hu, Instr.slice, Option.map_none, hr, run_sizeOf he, Sem.run_pure, sliceAt]
 by_cases hc : p.toNat = cap
 ·simp [hc]
 ·simp only [if_neg (Ne.symm hc), if_neg hc]
theorem J_sliceStr {t : TypeId} {ty' : Ty} {x : Operand} {lo hi : Option Operand} {s : ByteArray} {p q : Int} (hd : Nat.blt d n = true)
  (ht : U.get t = some ty') (hu : ty'.und = .string) (hx : ev L x = some (.string s)) (hlo : lowV L lo = some p) (hhi : highV L s.size hi = some q) (h0 : 0 ≤ p) (hpq : p ≤ q) (hqc : q ≤ (s.size : Int))
  (h : J P f n R G S all rest k ((d, .string (s.extract p.toNat q.toNat)) :: L) H) :
  J P f n R G S all (.cons m true ⟨some d, .slice t x lo hi none, ty, pos, af, gd⟩ rest) k L H := by
 refine J_pure hd (fun a ha w => ?_) h
 have hr := run_bounds (P := P) (w := w) false ha hlo hhi h0 hpq (.inr hqc)
 simp only [execOp, ha.ev hx, Instr.sliceAt, Sem.run_bind, run_underlying ht, Result.andThen_ok, hu, Instr.slice, Option.map_none, hr, Option.isSome_none, Bool.false_eq_true, if_false, Sem.run_pure]
theorem J_indexAddr {t elem : TypeId} {ty' te : Ty} {x y : Operand} {j : IntKind} {b o len cap : Nat} {p : Int} (hd : Nat.blt d n = true)
  (ht : U.get t = some ty') (hu : ty'.und = .slice elem) (he : U.get elem = some te) (hx : ev L x = some (.slice (some ⟨b, o, none⟩) len cap)) (hy : ev L y = some (.int j p)) (h0 : 0 ≤ p) (hp : p < (len : Int))
  (h : J P f n R G S all rest k ((d, .pointer (some ⟨b, o + p.toNat * te.info.size, none⟩)) :: L) H) :
  J P f n R G S all (.cons m true ⟨some d, .indexAddr t x y, ty, pos, af, gd⟩ rest) k L H := by
 refine J_pure hd (fun a ha w => ?_) h
 simp only [execOp, ha.ev hx, ha.ev hy, Instr.indexAt, asIntOf, Sem.run_bind, Sem.run_pure, run_underlying ht, Result.andThen_ok, hu]
 rw [if_pos ⟨h0, hp⟩]
 simp only [Sem.run_bind, run_sizeOf he, Result.andThen_ok, Sem.run_pure, Addr.add_eq]
theorem J_at {t elem : TypeId} {ty' te : Ty} {x y : Operand} {j : IntKind} {b o len cap : Nat} {p : Int} (q sz : Nat) (hd : Nat.blt d n = true)
  (ht : U.get t = some ty') (hu : ty'.und = .slice elem) (he : U.get elem = some te) (hs : te.info.size = sz) (hx : ev L x = some (.slice (some ⟨b, o, none⟩) len cap)) (hy : ev L y = some (.int j p)) (hq : p = (q : Int)) (hlt : q < len)
  (h : J P f n R G S all rest k ((d, .pointer (some ⟨b, o + q * sz, none⟩)) :: L) H) :
  J P f n R G S all (.cons m true ⟨some d, .indexAddr t x y, ty, pos, af, gd⟩ rest) k L H := by
 subst hq; subst hs
 exact J_indexAddr hd ht hu he hx hy (by omega) (by omega) (by simpa using h)
theorem J_at1 {t elem : TypeId} {ty' te : Ty} {x y : Operand} {j : IntKind} {b o len cap : Nat} {p : Int} (q : Nat) (hd : Nat.blt d n = true)
  (ht : U.get t = some ty') (hu : ty'.und = .slice elem) (he : U.get elem = some te) (hs : te.info.size = 1) (hx : ev L x = some (.slice (some ⟨b, o, none⟩) len cap)) (hy : ev L y = some (.int j p)) (hq : p = (q : Int)) (hlt : q < len)
  (h : J P f n R G S all rest k ((d, .pointer (some ⟨b, o + q, none⟩)) :: L) H) :
  J P f n R G S all (.cons m true ⟨some d, .indexAddr t x y, ty, pos, af, gd⟩ rest) k L H :=
 J_at q 1 hd ht hu he hs hx hy hq hlt (by simpa using h)
theorem J_indexArr {t elem : TypeId} {ty' te : Ty} {x y : Operand} {j : IntKind} {b o len : Nat} {p : Int} (hd : Nat.blt d n = true)
  (ht : U.get t = some ty') (hu : ty'.und = .array len elem) (he : U.get elem = some te) (hx : ev L x = some (.pointer (some ⟨b, o, none⟩))) (hy : ev L y = some (.int j p)) (h0 : 0 ≤ p) (hp : p < (len : Int))
  (h : J P f n R G S all rest k ((d, .pointer (some ⟨b, o + p.toNat * te.info.size, none⟩)) :: L) H) :
  J P f n R G S all (.cons m true ⟨some d, .indexAddr t x y, ty, pos, af, gd⟩ rest) k L H := by
 refine J_pure hd (fun a ha w => ?_) h
 simp only [execOp, ha.ev hx, ha.ev hy, Instr.indexAt, asIntOf, Sem.run_bind, Sem.run_pure, run_underlying ht, Result.andThen_ok, hu, Instr.sureAddr]
 rw [if_pos ⟨h0, hp⟩]
 simp only [Sem.run_bind, run_sizeOf he, Result.andThen_ok, Sem.run_pure, Addr.add_eq]
def byteAt (s : ByteArray) (i : Nat) : UInt8 := s.data.toList.getD i 0
theorem J_indexStr {t : TypeId} {ty' : Ty} {x y : Operand} {j : IntKind} {s : ByteArray} {p : Int} (hd : Nat.blt d n = true)
  (ht : U.get t = some ty') (hu : ty'.und = .string) (hx : ev L x = some (.string s)) (hy : ev L y = some (.int j p)) (h0 : 0 ≤ p) (hp : p < (s.size : Int))
  (h : J P f n R G S all rest k ((d, .int .u8 ((byteAt s p.toNat).toNat : Int)) :: L) H) :
  J P f n R G S all (.cons m true ⟨some d, .index t x y, ty, pos, af, gd⟩ rest) k L H := by
 refine J_pure hd (fun a ha w => ?_) h
 have hlt : p.toNat < s.size := by omega
 have hb : s[p.toNat]? = some (byteAt s p.toNat) := by
  have h1 : p.toNat < s.data.size := hlt
  have h2 : s[p.toNat]? = some s[p.toNat] := by simp [hlt]
  rw [h2]
  congr 1
  unfold byteAt
  rw [List.getD_eq_getElem?_getD, Array.getElem?_toList, Array.getElem?_eq_getElem h1]
  rfl
 simp [execOp, ha.ev hx, ha.ev hy, Instr.index, asIntOf, run_underlying ht, hu, h0, hb]
theorem J_indexAgg {t elem : TypeId} {ty' te : Ty} {x y : Operand} {j : IntKind} {cs : Array Value} {len : Nat} {p : Int} {v : Value} (hd : Nat.blt d n = true)
  (ht : U.get t = some ty') (hu : ty'.und = .array len elem) (he : U.get elem = some te) (hg : te.isAgg = false) (h1 : Nat.beq te.info.size 1 = true) (hx : ev L x = some (.agg cs)) (hy : ev L y = some (.int j p)) (h0 : 0 ≤ p) (hp : p < (len : Int)) (hv : cs.toList[p.toNat]? = some v)
  (h : J P f n R G S all rest k ((d, v) :: L) H) :
  J P f n R G S all (.cons m true ⟨some d, .index t x y, ty, pos, af, gd⟩ rest) k L H := by
 refine J_pure hd (fun a ha w => ?_) h
 have hv' : cs[p.toNat]? = some v := by simpa using hv
 have h1' : te.info.size = 1 := Nat.eq_of_beq_eq_true h1
 simp [execOp, ha.ev hx, ha.ev hy, Instr.index, asIntOf, run_underlying ht, hu, h0, hp, run_sizeOf he, h1', part, run_isAgg he, hg, hv']
theorem J_loadV {t : TypeId} {x : Operand} {b off : Nat} {ty' : Ty} {v : Value} {A : HP} (i : Nat) (hd : Nat.blt d n = true)
  (hx : ev L x = some (.pointer (some ⟨b, off, none⟩))) (hi : getL H i = some A) (hv : ∀ h, A h → hcell h b off = some v) (ht : U.get t = some ty') (hg : ty'.isAgg = false)
  (h : J P f n R G S all rest k ((d, v) :: L) H) : J P f n R G S all (.cons false true ⟨some d, .load t x, ty, pos, af, gd⟩ rest) k L H :=
 J_loadC hd hx (fun w hw => by
  obtain ⟨h, hh, hA⟩ := hw.getA hi
  exact cell_of_hcell hh (hv h hA)) ht hg h
/-! ## bytes and strings -/
def u8 (x : UInt8) : Value := .int .u8 (x.toNat : Int)
def bV (bs : List UInt8) : List Value := bs.map u8
theorem bV_length (bs : List UInt8) : (bV bs).length = bs.length := by simp [bV]
theorem bV_one (bs : List UInt8) : ∀ u ∈ bV bs, u.oneCell' = true := by
 intro u hu
 simp only [bV, List.mem_map] at hu
 obtain ⟨x, _, rfl⟩ := hu
 rfl
theorem foldl_push (bs : List UInt8) : ∀ s : ByteArray, (bs.map fun x => (x.toNat : Int)).foldl (fun r n => r.push (UInt8.ofNat n.toNat)) s = ⟨(s.data.toList ++ bs).toArray⟩ := by
 induction bs with
 | nil => intro s; simp
 | cons x l ih =>
  intro s
  simp only [List.map_cons, List.foldl_cons, ih]
  simp [ByteArray.push]
def strOf (bs : List UInt8) : ByteArray := ⟨bs.toArray⟩
theorem strOf_data (s : ByteArray) : strOf s.data.toList = s := by simp [strOf]
theorem strOf_inj {a b : List UInt8} : strOf a = strOf b ↔ a = b := by
 constructor
 ·intro h; have := congrArg (fun s : ByteArray => s.data.toList) h; simpa [strOf] using this
 ·rintro rfl; rfl
theorem eqS_strOf {a b : List UInt8} : eqS (strOf a) (strOf b) = decide (a = b) := by
 rw [Bool.eq_iff_iff, eqS_iff, strOf_inj]; simp
theorem J_toStr {src dst e : TypeId} {ts td te : Ty} {x : Operand} {v : Value} {A : HP} {bs : List UInt8} (i : Nat) (hd : Nat.blt d n = true)
  (hx : ev L x = some v) (hs : U.get src = some ts) (hsu : ts.und = .slice e) (he : U.get e = some te) (heu : te.und = .int .u8) (hdt : U.get dst = some td) (hdu : td.und = .string) (hi : getL H i = some A) (hv : Vw A v bs.length (bV bs))
  (h : J P f n R G S all rest k ((d, .string (strOf bs)) :: L) H) : J P f n R G S all (.cons false true ⟨some d, .convert src dst x, ty, pos, af, gd⟩ rest) k L H := by
 refine J_read hd (fun a w ha hw => ?_) h
 obtain ⟨a0, cap, rfl, h0 | ⟨b, o, rfl, hc⟩⟩ := hv.cells hw hi
 ·have hb : bs = [] := by simpa [bV] using h0
  subst hb
  cases a0 with
  | none =>
   simp only [execOp, ha.ev hx, Sem.run_bind]
   rw [run_convert_bytes_string w src dst e _ _ _ (by rw [und_of (P := P) hs, hsu]) (by rw [und_of (P := P) he, heu]) (by rw [und_of (P := P) hdt, hdu])]
   simp [Conv.bytesToString, strOf]
   rfl
  | some a1 =>
   simp only [execOp, ha.ev hx, Sem.run_bind]
   rw [run_convert_bytes_string w src dst e _ _ _ (by rw [und_of (P := P) hs, hsu]) (by rw [und_of (P := P) he, heu]) (by rw [und_of (P := P) hdt, hdu])]
   rw [run_bytesToString w a1 _ _ [] (by simp [loadCells, loadCellsFrom])]
   simp [strOf]
   rfl
 ·have h1 := run_loadCells_list (P := P) w ⟨b, o, none⟩ (bV bs) (fun j c hj => by rw [Addr.add_eq]; exact hc j c hj)
  rw [bV_length] at h1
  simp only [execOp, ha.ev hx, Sem.run_bind]
  rw [run_convert_bytes_string w src dst e _ _ _ (by rw [und_of (P := P) hs, hsu]) (by rw [und_of (P := P) he, heu]) (by rw [und_of (P := P) hdt, hdu])]
  rw [run_bytesToString w _ _ _ (bs.map fun x => (x.toNat : Int)) (by rw [h1]; simp [bV, u8]), foldl_push]
  simp [strOf]
def sbRow (b : Nat) (s : ByteArray) (e : TypeId) (cap : Nat) : HP := pts b (.cells (bytesRow s cap) e ((bytesRow s cap).size, (bytesRow s cap).size + 1))
theorem sbRow_view (b : Nat) (s : ByteArray) (e : TypeId) (cap cap' : Nat) : Vw (sbRow b s e cap) (.slice (some ⟨b, 0, none⟩) s.size cap') s.size (bV s.data.toList) := by
 refine ⟨_, cap', rfl, .inr ⟨b, 0, rfl, fun h hA j c hj => ?_⟩⟩
 unfold hcell
 rw [hA b, if_pos rfl]
 simp only [bytesRow, Nat.zero_add]
 have hlt : j < s.data.size := by
  rcases Nat.lt_or_ge j s.data.size with h | h
  ·exact h
  ·rw [bV, List.getElem?_eq_none (by simpa using h)] at hj; cases hj
 simp only [bV] at hj
 rw [Array.getElem?_append_left (by simpa using hlt)]
 simpa [hlt, u8] using hj
theorem J_toBytes {src dst e : TypeId} {ts td te : Ty} {x : Operand} {s : ByteArray} (hd : Nat.blt d n = true)
  (hx : ev L x = some (.string s)) (hs : U.get src = some ts) (hsu : ts.und = .string) (hdt : U.get dst = some td) (hdu : td.und = .slice e) (he : U.get e = some te) (heu : te.und = .int .u8)
  (hS : ∀ b cap w, Sat G w (sbRow b s e cap :: H) → Sx rest S w)
  (h : ∀ b cap, J P f n R G S all rest k ((d, .slice (some ⟨b, 0, none⟩) s.size cap) :: L) (sbRow b s e cap :: H)) : J P f n R G S all (.cons false true ⟨some d, .convert src dst x, ty, pos, af, gd⟩ rest) k L H := by
 refine J_act hd (fun u H1 => ∃ b cap, u = .slice (some ⟨b, 0, none⟩) s.size cap ∧ H1 = sbRow b s e cap :: H) (fun a w ha hw => ?_) ?_ ?_
 ·refine ⟨_, w.drew.alloc (.cells (bytesRow s (grownCap w s.size 0 e)) e ((bytesRow s (grownCap w s.size 0 e)).size, (bytesRow s (grownCap w s.size 0 e)).size + 1)), _, ?_, ⟨w.heap.size, grownCap w s.size 0 e, rfl, rfl⟩, ?_⟩
  ·have := run_bytes_of_string (P := P) w src dst e s (by rw [und_of (P := P) hs, hsu]) (by rw [und_of (P := P) hdt, hdu]) (by rw [und_of (P := P) he, heu])
   simp only [execOp, ha.ev hx, Sem.run_bind, this, Result.andThen_ok, Sem.run_pure]
  ·exact Sat.alloc (w := w.drew) (hw.draw _) _
 ·rintro u H1 w ⟨b, cap, rfl, rfl⟩ hw; exact hS b cap w hw
 ·rintro u H1 ⟨b, cap, rfl, rfl⟩; exact h b cap
end
end Go.SL
