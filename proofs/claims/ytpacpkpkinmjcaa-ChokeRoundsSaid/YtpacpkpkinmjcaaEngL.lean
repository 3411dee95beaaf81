/- Engine, part L: a whole element read where it stands through a region. Nothing here names a program. -/
import Derived.Test.YtpacpkpkinmjcaaEngI
set_option linter.unusedVariables false
set_option linter.unusedSimpArgs false
namespace Go.SL
section
variable {P : Program} {U : Tr} [hU : TabOk P U] {f : FuncId} {n : Nat} {R : Ending → World → Prop} {G : Glob} {k : List Item} {L : Lst} {H H' : List HP} {S : World → Prop} {all : Array Oper} {rest : Pl}
  {ty : TypeId} {pos : String} {af : Array Edge} {gd : Option (Nat × Bool)} {m : Bool} {d : Tmp}
theorem J_loadElemS {Hs : List HP} {t : TypeId} {x : Operand} {b o off nn cap : Nat} {ty' : Ty} {es cs : List Value} {A : HP} (i idx : Nat) (hd : Nat.blt d n = true) (hx : ev L x = some (.pointer (some ⟨b, off, none⟩)))
    (hi : getL Hs i = some A) (hv : Vw A (.slice (some ⟨b, o, none⟩) nn cap) nn cs) (hoff : off = o + idx) (hes : ∀ j v, es[j]? = some v → cs[idx + j]? = some v) (ht : U.get t = some ty') (hg : ty'.isAgg = true) (hl : Nat.beq es.length ty'.info.size = true)
    (h : J P f n R G (fun w => Sat G w Hs) all rest k ((d, .agg es.toArray) :: L) H) : J P f n R G (fun w => Sat G w Hs) all (.cons true true ⟨some d, .load t x, ty, pos, af, gd⟩ rest) k L H :=
  J_readS hd (fun a w ha hw => by
    have hc : ∀ j v, es[j]? = some v → w.cell? ⟨b, off + j, none⟩ = some v := fun j v hj => by
      obtain ⟨h, hh, hA⟩ := Sat.getA hw hi
      have := hv.cell (hes j v hj) h hA
      rw [hoff, show o + idx + j = o + (idx + j) by omega]
      exact cell_of_hcell hh this
    simp [execOp, ha.ev hx, run_loadAgg (P := P) ht hg (Nat.eq_of_beq_eq_true hl) hc]) h
end
theorem eqS_dec (a b : ByteArray) : eqS a b = decide (a = b) := by
  rw [Bool.eq_iff_iff, eqS_iff]; simp
end Go.SL
