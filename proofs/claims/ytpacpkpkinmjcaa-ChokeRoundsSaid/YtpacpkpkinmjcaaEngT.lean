/- Engine, part T: the end of a call whose first result lies in a cell. Nothing here names a program. -/
import Derived.Test.YtpacpkpkinmjcaaEngI
set_option linter.unusedVariables false
set_option linter.unusedSimpArgs false
namespace Go.SL
open Go
theorem K_returnC {P : Program} {U : Tr} [hU : TabOk P U] {f : FuncId} {n : Nat} {R : Ending → World → Prop} {G : Glob} {k k0 : List Item} {L : Lst} {H : List HP} {fn : Func} {F : List HP} {Post : Value → List HP → Prop} {p q b : Nat} {t e : TypeId} {ty' : Ty} {cs : List Value} {u : Value} (i : Nat)
    (hR : Ends R G F Post) (hf : P.funcs[f]? = some fn) (hk : advK 1000 k0 = .mk (.code .ret :: k)) (hfr : fn.results.toList = [.cell p t, .tmp q]) (hp : fget L p = some (.pointer (some ⟨b, 0, none⟩))) (hq : fget L q = some u)
    (ht : U.get t = some ty') (hg : ty'.isAgg = true) (hl : Nat.beq cs.length ty'.info.size = true) (hi : getL H i = some (pts b (cl cs e))) {Hq : List HP}
    (hpost : Post (.tuple #[.agg cs.toArray, u]) Hq) (he : Ent H (Hq ++ F)) : K P f n R G k0 L H := by
  refine K_advK 1000 hk ?_
  intro a w ha hw cs'
  have hc : ∀ j v, cs[j]? = some v → w.cell? ⟨b, 0 + j, none⟩ = some v := fun j v hj => by rw [cell_of_block (hw.getP hi), Nat.zero_add]; exact hj
  have hld := run_loadAgg (P := P) (w := w) ht hg (Nat.eq_of_beq_eq_true hl) hc
  have hld' : (loadVar t ⟨b, 0, none⟩).run P w = .ok (.agg cs.toArray) w := by simpa [Instr.loadAt, Instr.sureAddr] using hld
  have g1 : a.tmps.getD p undef = .pointer (some ⟨b, 0, none⟩) := by simp [Array.getD_eq_getD_getElem?, ha.get hp]
  have g2 : a.tmps.getD q undef = u := by simp [Array.getD_eq_getD_getElem?, ha.get hq]
  have hrun : (results fn a.tmps).run P w = .ok (.tuple #[.agg cs.toArray, u]) w := by
    rw [results_eq, Array.mapM_eq_mapM_toList, hfr]
    simp only [Sem.run_bind, Sem.run_map, List.mapM_cons, List.mapM_nil, resF, g1, g2, asAddr, Sem.run_pure, Result.andThen_ok, hld']
    simp
  rw [hR.1.1]
  exact ⟨_, w, _, hR.2 _ _ w hpost (hw.ent he), .one (stepR_ret rfl), rfl, rfl, by show a.defers = []; rw [ha.2, hR.1.2]; rfl, rfl, fn, hf, hrun⟩
end Go.SL
