/- Engine, part R: string(b) where b stands through a region. Nothing here names a program. -/
import Derived.Test.YtpacpkpkinmjcaaEngQ
set_option linter.unusedVariables false
set_option linter.unusedSimpArgs false
namespace Go.SL
section
variable {P : Program} {U : Tr} [hU : TabOk P U] {f : FuncId} {n : Nat} {R : Ending → World → Prop} {G : Glob} {k : List Item} {L : Lst} {H H' : List HP} {S : World → Prop} {all : Array Oper} {rest : Pl}
  {ty : TypeId} {pos : String} {af : Array Edge} {gd : Option (Nat × Bool)} {m : Bool} {d : Tmp}
theorem J_toStrS {Hs : List HP} {src dst e : TypeId} {ts td te : Ty} {x : Operand} {v : Value} {A : HP} {bs : List UInt8} (i : Nat) (hd : Nat.blt d n = true)
    (hx : ev L x = some v) (hs : U.get src = some ts) (hsu : ts.und = .slice e) (he : U.get e = some te) (heu : te.und = .int .u8) (hdt : U.get dst = some td) (hdu : td.und = .string) (hi : getL Hs i = some A) (hv : Vw A v bs.length (bV bs))
    (h : J P f n R G (fun w => Sat G w Hs) all rest k ((d, .string (strOf bs)) :: L) H) : J P f n R G (fun w => Sat G w Hs) all (.cons true true ⟨some d, .convert src dst x, ty, pos, af, gd⟩ rest) k L H := by
  refine J_readS hd (fun a w ha hw => ?_) h
  have hw : Sat G w Hs := hw
  obtain ⟨a0, cap, rfl, h0 | ⟨b, o, rfl, hc⟩⟩ := hv.cells hw hi
  · have hb : bs = [] := by simpa [bV] using h0
    subst hb
    cases a0 with
    | none =>
      simp only [execOp, ha.ev hx, Sem.run_bind]
      rw [run_convert_bytes_string w src dst e _ _ _ (by rw [und_of (P := P) hs, hsu]) (by rw [und_of (P := P) he, heu]) (by rw [und_of (P := P) hdt, hdu])]
      simp [Conv.bytesToString, strOf]
      rfl
    | some a1 =>
      simp only [execOp, ha.ev hx, Sem.run_bind]
      rw [run_convert_bytes_string w src dst e _ _ _ (by rw [und_of (P := P) hs, hsu]) (by rw [und_of (P := P) he, heu]) (by rw [und_of (P := P) hdt, hdu])]
      rw [run_bytesToString w a1 _ _ [] (by simp [loadCells, loadCellsFrom])]
      simp [strOf]
      rfl
  · have h1 := run_loadCells_list (P := P) w ⟨b, o, none⟩ (bV bs) (fun j c hj => by rw [Addr.add_eq]; exact hc j c hj)
    rw [bV_length] at h1
    simp only [execOp, ha.ev hx, Sem.run_bind]
    rw [run_convert_bytes_string w src dst e _ _ _ (by rw [und_of (P := P) hs, hsu]) (by rw [und_of (P := P) he, heu]) (by rw [und_of (P := P) hdt, hdu])]
    rw [run_bytesToString w _ _ _ (bs.map fun x => (x.toNat : Int)) (by rw [h1]; simp [bV, u8]), foldl_push]
    simp [strOf]
end
end Go.SL
