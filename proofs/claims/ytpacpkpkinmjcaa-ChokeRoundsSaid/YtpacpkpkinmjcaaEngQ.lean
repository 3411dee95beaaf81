/- Engine, part Q: a store into a field of an element of a slice. Nothing here names a program. -/
import Derived.Test.YtpacpkpkinmjcaaEngP
set_option linter.unusedVariables false
set_option linter.unusedSimpArgs false
namespace Go.SL
section
variable {P : Program} {U : Tr} [hU : TabOk P U] {f : FuncId} {n : Nat} {R : Ending → World → Prop} {G : Glob} {k : List Item} {L : Lst} {H H' : List HP} {S : World → Prop} {all : Array Oper} {rest : Pl}
  {ty : TypeId} {pos : String} {af : Array Edge} {gd : Option (Nat × Bool)} {m : Bool} {d : Tmp}
theorem J_storeSlcN {t : TypeId} {x y : Operand} {b o q off c nn sz : Nat} {ty' : Ty} {u : Value} {e : TypeId} {cs : List Value} (i : Nat) (hS : ∀ w, Sat G w H' → Sx rest S w)
    (hx : ev L x = some (.pointer (some ⟨b, off, none⟩))) (hoff : off = o + q) (hy : ev L y = some u) (ht : U.get t = some ty') (hsz : Nat.beq ty'.info.size 1 = true) (hc : cellsL u = [u]) (hone : allOne [u] = true)
    (hi : getL H i = some (slc e sz (.slice (some ⟨b, o, none⟩) nn c) nn cs)) (h0 : 0 < nn) (hq : q < nn * sz) (hp : putP i (slc e sz (.slice (some ⟨b, o, none⟩) nn c) nn (cs.set q u)) H [] = .mk H')
    (h : J P f n R G S all rest k L H') : J P f n R G S all (.cons false true ⟨none, .store t x y, ty, pos, af, gd⟩ rest) k L H := by
  subst hoff
  refine J_ent (Ent.perm (perm_of_get (by rw [← getL_eq]; exact hi))) ?_
  refine J_open (B := fun x : List Value × List Value => [pts b (cl (x.1 ++ cs ++ x.2) e)]) (fun h hs => slc_openN h0 h hs) ?_
  rintro ⟨pre, junk⟩ ⟨h1, h2, h3, h4⟩
  simp only at h1 h2 h3 h4
  have hset : (pre ++ cs ++ junk).set (o + q) u = pre ++ cs.set q u ++ junk := by
    rw [List.append_assoc, List.set_append_right _ _ (by omega), show o + q - pre.length = q by omega, List.set_append_left _ _ (by omega), List.append_assoc]
  have hE : Ent (pts b (cl (pre ++ cs.set q u ++ junk) e) :: H.eraseIdx i) H' := by
    have h5 := putP_eq i _ _ H [] H' hp hi
    exact (slc_closeN h1 h2 (by rw [List.length_set]; exact h3) (by rw [List.length_set]; exact h4) _).trans (Ent.perm (by simpa using h5.symm))
  refine J_store (U := U) (l' := pre ++ cs.set q u ++ junk) 0 (fun w hw => hS w (hw.ent hE)) hx hy ht (by rw [hc, Nat.eq_of_beq_eq_true hsz]; rfl) (by rw [hc]; rfl) (by rw [hc]; exact hone) rfl ?_ rfl (J_ent hE h)
  rw [hc, repl_go _ _ _ _ (by simp; omega), ← hset]
  rfl
end
end Go.SL
