/- Engine, part Y: functions with first arguments bound; sums of strings; a row without noughts. Nothing here names a program. -/
import Derived.Test.YtpacpkpkinmjcaaEngU
import Derived.Test.YtpacpkpkinmjcaaEngG
import Derived.Test.YtpacpkpkinmjcaaEngE
import Derived.Lib.MakeNoZero
set_option linter.unusedVariables false
set_option linter.unusedSimpArgs false
namespace Go.SL
open Go
section
variable {P : Program} {U : Tr} [hU : TabOk P U] {f : FuncId} {n : Nat} {R : Ending → World → Prop} {G : Glob} {k : List Item} {L : Lst} {H : List HP} {S : World → Prop} {all : Array Oper} {rest : Pl} {d : Tmp} {ty : TypeId} {pos : String} {af : Array Edge} {gd : Option (Nat × Bool)} {m : Bool}
/-- A call of a function value with its first arguments bound. -/
theorem J_callF {fo : Operand} {args : Array Operand} {tys : Array TypeId} {g : FuncId} {fi cap : Array Value} {vs : List Value} {Pre Fr : List HP} {Post : Value → List HP → Prop} (hd : Nat.blt d n = true)
    (hf : ev L fo = some (.func (.func g) fi cap)) (hargs : evs L args.toList [] = .mk vs) {as : List Value} (has : as = fi.toList ++ vs ++ cap.toList) (c : Ctr P g as Pre Post) (he : Ent H (Pre ++ Fr))
    (h : ∀ v H', Post v H' → J P f n R G S all rest k ((d, v) :: L) (H' ++ Fr))
    (hS : ∀ v H' w, Post v H' → Sat G w (H' ++ Fr) → Sx rest S w) :
    J P f n R G S all (.cons false true ⟨some d, .call { callee := .value fo, args := args, argTypes := tys }, ty, pos, af, gd⟩ rest) k L H := by
  intro a w ha hw _
  refine .inl ⟨.inl rfl, .inr ⟨rfl, ?_⟩⟩
  have hr : (execOp a.eval ⟨some d, .call { callee := .value fo, args := args, argTypes := tys }, ty, pos, af, gd⟩).run P w = .ok (.enter g as.toArray) w := by
    simp only [execOp, resolve, Sem.run_bind, ha.ev hf, Deferred.ofValue, Sem.run_pure, Result.andThen_ok, invoke]
    rw [run_callFunc c.1, evs_arr ha.1 _ _ hargs, has]
    congr 2
    apply Array.ext'
    simp
  refine wpIn_call (fun c hc => by cases hc) hr (Calls.mono (c.2 G w Fr (hw.ent he)) ?_)
  rintro e w' ⟨v, H', rfl, hpost, hw'⟩
  exact ⟨v, rfl, hS v H' w' hpost hw', h v H' hpost _ w' (ha.put hd v) hw' (hS v H' w' hpost hw')⟩
theorem J_strAdd {t yt : TypeId} {x y : Operand} {p q : ByteArray} (hd : Nat.blt d n = true) (hx : ev L x = some (.string p)) (hy : ev L y = some (.string q)) (hr : p.size + q.size ≤ 9223372036854775807)
    (h : J P f n R G S all rest k ((d, .string (p ++ q)) :: L) H) : J P f n R G S all (.cons m true ⟨some d, .binOp .add t x y yt, ty, pos, af, gd⟩ rest) k L H :=
  J_pure hd (fun a ha w => by
    have h0 : ¬ (((p.size + q.size : Nat) : Int) > IntKind.i64.max) := by have : IntKind.i64.max = 9223372036854775807 := by decide
                                                                          omega
    simp only [execOp, ha.ev hx, ha.ev hy, eqGuard, Sem.run_bind, Sem.run_pure, Result.andThen_ok, binOp_string_add, Op.stringOp]
    rw [if_neg h0]
    rfl) h
/-- bytealg.MakeNoZero: a row of whatever cells. -/
theorem J_makeNoZero {g : FuncId} {fn : Func} {args : Array Operand} {tys : Array TypeId} {t elem : TypeId} {ty' : Ty} {q : Nat} (hd : Nat.blt d n = true)
    (hf : P.funcs[g]? = some fn) (hb : fn.body = none) (hn : (fn.name == "runtime.NumGoroutine") = false) (hnx : (Extern.findNext fn).isNone = true) (he : Extern.find fn = some (Extern.BytealgMakeNoZero.makeNoZero fn.params #[t]))
    (ht : U.get t = some ty') (hu : ty'.und = .slice elem)
    (hargs : evs L args.toList [] = .mk [.int .i64 (q : Int)]) (hq : q ≤ 281474976710656)
    (hS : ∀ b l w, Sat G w (pts b (cl l elem) :: H) → Sx rest S w)
    (h : ∀ b c l, q ≤ c → List.length l = c → J P f n R G S all rest k ((d, .slice (some ⟨b, 0, none⟩) q c) :: L) (pts b (cl l elem) :: H)) :
    J P f n R G S all (.cons false true ⟨some d, .call { callee := .value (.func g), args := args, argTypes := tys }, ty, pos, af, gd⟩ rest) k L H := by
  refine J_act hd (fun u H1 => ∃ b c l, (q ≤ c ∧ List.length l = c) ∧ u = .slice (some ⟨b, 0, none⟩) q c ∧ H1 = pts b (cl l elem) :: H) (fun a w ha hw => ?_) ?_ ?_
  · have hav := evs_arr ha _ _ hargs
    obtain ⟨cs, hr, h1, _⟩ := Lib.run_makeNoZero (P := P) w fn.params t elem (by rw [← hu]; exact und_of ht) q hq
    have hw2 : Sat G w.drew.drew H := (hw.draw _).draw _
    refine ⟨_, w.drew.drew.alloc (.cells cs elem), _, ?_, ⟨w.heap.size, cs.size, cs.toList, ⟨h1, by simp⟩, rfl, rfl⟩, ?_⟩
    · simp only [execOp, resolve, Sem.run_bind, Act.eval, Deferred.ofValue, Sem.run_pure, Result.andThen_ok, invoke]
      rw [show Array.map (fun x => a.eval x) args = #[.int .i64 (q : Int)] from hav]
      simp only [Array.empty_append, Array.append_empty]
      rw [run_extern hf hb hn hnx he, hr]
      rfl
    · have := hw2.alloc (cl cs.toList elem)
      have e : cl cs.toList elem = .cells cs elem := by simp [cl]
      rw [e] at this ⊢
      exact this
  · rintro u H1 w ⟨b, c, l, _, rfl, rfl⟩ hw; exact hS b l w hw
  · rintro u H1 ⟨b, c, l, ⟨h1, h2⟩, rfl, rfl⟩; exact h b c l h1 h2
/-- 's[:q:r]'. -/
theorem J_slice3n {t elem : TypeId} {ty' te : Ty} {x hi mx : Operand} {a0 : Option Addr} {len cap : Nat} {q r : Int} {j2 j3 : IntKind} (hd : Nat.blt d n = true)
    (ht : U.get t = some ty') (hu : ty'.und = .slice elem) (he : U.get elem = some te) (hx : ev L x = some (.slice a0 len cap)) (hhi : ev L hi = some (.int j2 q)) (hmx : ev L mx = some (.int j3 r)) (h0 : 0 ≤ q) (hqr : q ≤ r) (hrc : r ≤ (cap : Int))
    (h : J P f n R G S all rest k ((d, .slice (sliceAt a0 r.toNat 0 te.info.size) q.toNat r.toNat) :: L) H) :
    J P f n R G S all (.cons m true ⟨some d, .slice t x none (some hi) (some mx), ty, pos, af, gd⟩ rest) k L H := by
  refine J_pure hd (fun a ha w => ?_) h
  have hb : (Instr.sliceBounds true len cap none (some (a.eval hi)) (some (a.eval mx))).run P w = .ok (0, q.toNat, r.toNat) w := by
    unfold Instr.sliceBounds
    have e1 : 0 ≤ r ∧ r ≤ (cap : Int) := ⟨by omega, hrc⟩
    have e2 : 0 ≤ q ∧ q ≤ ((r.toNat : Nat) : Int) := ⟨by omega, by omega⟩
    have e4 : q ≤ max r 0 := by omega
    simp [ha.ev hhi, ha.ev hmx, Instr.sliceBound, asIntOf, e1, e2, e4, h0]
  simp only [execOp, ha.ev hx, Instr.sliceAt, Sem.run_bind, run_underlying ht, Result.andThen_ok, hu, Instr.slice, Option.map_some, Option.map_none, hb, run_sizeOf he, Sem.run_pure, sliceAt]
  by_cases hc : (0 : Nat) = r.toNat
  · simp [← hc]
  · simp [hc]
    intro hr0
    exfalso; omega
end
end Go.SL
