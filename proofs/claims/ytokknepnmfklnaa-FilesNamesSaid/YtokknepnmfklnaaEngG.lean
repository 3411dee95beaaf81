/- Engine, part G: functions without a Go body, interfaces, addresses compared, clear. Nothing here names a program. -/
import Derived.Test.YtokknepnmfklnaaEngF
set_option linter.unusedSimpArgs false
set_option linter.unusedVariables false
set_option linter.unusedSectionVars false
namespace Go.SL
section
variable {P : Program} {U : Tr} [hU : TabOk P U] {f : FuncId} {n : Nat} {R : Ending → World → Prop} {G : Glob} {k : List Item} {L : Lst} {H H' : List HP} {S : World → Prop} {all : Array Oper} {rest : Pl}
  {ty : TypeId} {pos : String} {af : Array Edge} {gd : Option (Nat × Bool)} {m : Bool} {d : Tmp}

theorem run_extern {g : FuncId} {fn : Func} {e : Array Value → Sem Value} {vs : Array Value} {w : World} (hf : P.funcs[g]? = some fn) (hb : fn.body = none) (hn : (fn.name == "runtime.NumGoroutine") = false) (hnx : (Extern.findNext fn).isNone = true) (he : Extern.find fn = some e) :
    (callFunc g vs).run P w = ((e vs).run P w).andThen fun v w' => .ok (.value v) w' := by
  have hnx' : Extern.findNext fn = none := Option.isNone_iff_eq_none.1 hnx
  simp only [callFunc, Sem.run_bind, run_program, Result.andThen_ok, hf, hn, hb, Option.isNone_none, Bool.false_eq_true, if_false, if_true, run_mark, hnx', he, Sem.run_pure]

/-- maps.clone. -/
theorem J_mapsClone {κ : Type} [DecidableEq κ] {kv : κ → Value} {g : FuncId} {fn : Func} {args : Array Operand} {tys : Array TypeId} {t : TypeId} {b : Nat} {es : List (κ × Value)} (i : Nat) (hd : Nat.blt d n = true)
    (hf : P.funcs[g]? = some fn) (hb : fn.body = none) (hn : (fn.name == "runtime.NumGoroutine") = false) (hnx : (Extern.findNext fn).isNone = true) (he : Extern.find fn = some Extern.MapsClone.clone)
    (hargs : evs L args.toList [] = .mk [.iface t (.map (some b))]) (hi : getL H i = some (mapR kv b es))
    (hS : ∀ b' w, Sat G w (mapR kv b' es :: H) → Sx rest S w)
    (h : ∀ b', J P f n R G S all rest k ((d, .iface t (.map (some b'))) :: L) (mapR kv b' es :: H)) :
    J P f n R G S all (.cons false true ⟨some d, .call { callee := .value (.func g), args := args, argTypes := tys }, ty, pos, af, gd⟩ rest) k L H := by
  refine J_act hd (fun u H1 => ∃ b', u = .iface t (.map (some b')) ∧ H1 = mapR kv b' es :: H) (fun a w ha hw => ?_) ?_ ?_
  · obtain ⟨o, hm, hb'⟩ := hw.getMap hi
    have hm0 := hm
    obtain ⟨entries, clock, rfl, hes, hnd, hborn, hbn⟩ := hm
    refine ⟨_, { w with heap := w.heap.push (.map entries clock) }, _, ?_, ⟨w.heap.size, rfl, rfl⟩, ?_⟩
    · simp only [execOp, resolve, Sem.run_bind, Act.eval, Deferred.ofValue, Sem.run_pure, Result.andThen_ok, invoke]
      rw [show (args.map fun x => a.eval x) = args.map a.eval from rfl] at *
      have hav := evs_arr ha _ _ hargs
      rw [show Array.map a.eval args = #[.iface t (.map (some b))] from hav]
      simp only [Array.empty_append, Array.append_empty]
      rw [run_extern hf hb hn hnx he]
      have hcl : Extern.MapsClone.clone #[.iface t (.map (some b))] = (getObj b >>= fun o => match o with
          | .map entries clock => newObj (.map entries clock) >>= fun r => pure (.iface t (.map (some r)))
          | _ => stuck "maps.clone: a map expected") := rfl
      rw [hcl]
      simp only [Sem.run_bind, run_getObj_map hb', Result.andThen_ok, run_newObj, Sem.run_pure]
    · have h3 := hw.alloc (.map entries clock)
      exact h3.ent (Ent.fold (B := [_]) fun h hs => ⟨h, sub.refl h, _, hm0, Sep_one hs⟩)
  · rintro u H1 w ⟨b', rfl, rfl⟩ hw; exact hS b' w hw
  · rintro u H1 ⟨b', rfl, rfl⟩; exact h b'

theorem J_assert {x : Operand} {xt t : TypeId} {ty' : Ty} {v : Value} (hd : Nat.blt d n = true) (hx : ev L x = some (.iface t v)) (ht : U.get t = some ty') (hni : (match ty'.und with | .interface _ => false | _ => true) = true)
    (h : J P f n R G S all rest k ((d, v) :: L) H) : J P f n R G S all (.cons m true ⟨some d, .typeAssert x xt t false, ty, pos, af, gd⟩ rest) k L H :=
  J_pure hd (fun a ha w => by
    simp only [execOp, ha.ev hx, Instr.typeAssert, Sem.run_bind, run_underlying ht, Result.andThen_ok]
    cases hu : ty'.und <;> simp_all) h
theorem J_mkIface {x : Operand} {t : TypeId} {ty' : Ty} {v : Value} (hd : Nat.blt d n = true) (hx : ev L x = some v) (ht : U.get t = some ty') (hni : (match ty'.und with | .interface _ => false | _ => true) = true)
    (h : J P f n R G S all rest k ((d, .iface t v) :: L) H) : J P f n R G S all (.cons m true ⟨some d, .makeInterface t x, ty, pos, af, gd⟩ rest) k L H :=
  J_pure hd (fun a ha w => by
    simp only [execOp, ha.ev hx, Instr.makeInterface, Sem.run_bind, run_underlying ht, Result.andThen_ok]
    cases hu : ty'.und <;> simp_all) h

/-! ## addresses compared -/
/-- A row of plain cells stands at the block. -/
def Row (w : World) (b : Nat) : Prop := ∃ l e, w.heap[b]? = some (cl l e)
theorem run_samePtr {b1 o1 b2 o2 : Nat} {w : World} (h1 : Row w b1) (h2 : Row w b2) : (sameAddr ⟨b1, o1, none⟩ ⟨b2, o2, none⟩).run P w = .ok (decide (b1 = b2 ∧ o1 = o2)) w := by
  obtain ⟨l1, e1, hb1⟩ := h1
  obtain ⟨l2, e2, hb2⟩ := h2
  unfold sameAddr
  by_cases hb : b1 = b2
  · subst hb
    simp only [beq_self_eq_true, if_true, Sem.run_pure, true_and]
    congr 1
    rw [Bool.eq_iff_iff]; simp
  · have hne : (b1 == b2) = false := by simpa using hb
    have f1 : ∀ o, w.frozen? ⟨b1, o, none⟩ = false := fun o => frozen_of_block hb1
    have f2 : ∀ o, w.frozen? ⟨b2, o, none⟩ = false := fun o => frozen_of_block hb2
    have s1 : w.shape? b1 = some (e1, l1.length) := by simp [World.shape?, hb1, cl]
    have s2 : w.shape? b2 = some (e2, l2.length) := by simp [World.shape?, hb2, cl]
    simp [hne, f1, f2, noView, viewAt, s1, s2, mayBeOne, stringish, hb]
theorem J_eqPtr {x y : Operand} {t yt el : TypeId} {ty' te : Ty} {b1 o1 b2 o2 : Nat} (hd : Nat.blt d n = true)
    (hx : ev L x = some (.pointer (some ⟨b1, o1, none⟩))) (hy : ev L y = some (.pointer (some ⟨b2, o2, none⟩))) (ht : U.get t = some ty') (hu : ty'.und = .pointer el) (he : U.get el = some te) (hsz : Nat.beq te.info.size 0 = false)
    (h1 : ∀ w, Sat G w H → Row w b1) (h2 : ∀ w, Sat G w H → Row w b2)
    (h : J P f n R G S all rest k ((d, .bool (decide (b1 = b2 ∧ o1 = o2))) :: L) H) : J P f n R G S all (.cons false true ⟨some d, .binOp .eql t x y yt, ty, pos, af, gd⟩ rest) k L H :=
  J_read hd (fun a w ha hw => by
    have hr := run_samePtr (P := P) (o1 := o1) (o2 := o2) (h1 w hw) (h2 w hw)
    have hne : te.info.size ≠ 0 := Nat.ne_of_beq_eq_false hsz
    have heq : (Op.equal t (.pointer (some ⟨b1, o1, none⟩)) (.pointer (some ⟨b2, o2, none⟩))).run P w = .ok (decide (b1 = b2 ∧ o1 = o2)) w := by
      unfold Op.equal Op.maxDepth Op.equalIn
      simp only [Sem.run_bind, run_underlying ht, Result.andThen_ok, hu, run_sizeOf he, ne_eq, hne, not_false_eq_true, if_true, hr]
    have hg : (eqGuard .eql t x y (.pointer (some ⟨b1, o1, none⟩)) (.pointer (some ⟨b2, o2, none⟩))).run P w = .ok () w := by simp [eqGuard]
    have hb : (binOp .eql t (.pointer (some ⟨b1, o1, none⟩)) (.pointer (some ⟨b2, o2, none⟩))).run P w = .ok (.bool (decide (b1 = b2 ∧ o1 = o2))) w := by
      simp only [binOp, Sem.run_bind, heq, Result.andThen_ok, Sem.run_pure]
    simp only [execOp, ha.ev hx, ha.ev hy, Sem.run_bind, hg, hb, Result.andThen_ok, Sem.run_pure]) h

/-! ## clear -/
theorem J_clear {x : Operand} {t elem : TypeId} {ty' te : Ty} {z : Value} {b o nn cap : Nat} {l l' : List Value} {e : TypeId} (i : Nat)
    (hS : ∀ w, Sat G w H' → Sx rest S w)
    (hx : ev L x = some (.slice (some ⟨b, o, none⟩) nn cap)) (ht : U.get t = some ty') (hu : ty'.und = .slice elem) (he : U.get elem = some te) (hz : te.info.zero = some z) (hzs : Nat.beq (cellsL z).length te.info.size = true) (hone : allOne (cellsL z) = true)
    (hi : getL H i = some (pts b (cl l e))) (hfit : o + nn * te.info.size ≤ l.length) (hl' : l' = l.take o ++ (List.replicate nn (cellsL z)).flatten ++ l.drop (o + nn * te.info.size)) (hp : putP i (pts b (cl l' e)) H [] = .mk H')
    (h : J P f n R G S all rest k L H') : J P f n R G S all (.cons false true ⟨none, .call { callee := .builtin .clear, args := #[x], argTypes := #[t] }, ty, pos, af, gd⟩ rest) k L H := by
  intro a w ha hw _
  have hzs' : (cellsL z).length = te.info.size := Nat.eq_of_beq_eq_true hzs
  have hcells : (Builtin.zeroCells z.cells nn).toList = (List.replicate nn (cellsL z)).flatten := by
    have hcs : z.cells.size = (cellsL z).length := by rw [cellsL_eq]; simp
    unfold Builtin.zeroCells
    simp only [Array.toList_map, Array.toList_range, hcs]
    rw [cellsL_eq]
    induction nn with
    | zero => simp
    | succ nn ih =>
      clear ih
      rw [List.replicate_succ', List.flatten_append]
      have hgen : ∀ q, List.map (fun i => (cellsL z).toArray[i % (cellsL z).length]!) (List.range (q * (cellsL z).length)) = (List.replicate q (cellsL z)).flatten := by
        intro q
        induction q with
        | zero => simp
        | succ q ih =>
          rw [List.replicate_succ', List.flatten_append, ← ih, Nat.succ_mul, List.range_add, List.map_append]
          congr 1
          simp only [List.map_map, List.flatten_cons, List.flatten_nil, List.append_nil]
          apply List.ext_getElem?
          intro j
          by_cases hj : j < (cellsL z).length
          · simp only [List.getElem?_map, List.getElem?_range hj, Option.map_some, Function.comp]
            rw [Nat.mul_comm, Nat.mul_add_mod, Nat.mod_eq_of_lt hj]
            simp [hj]
          · rw [List.getElem?_eq_none (by simp; omega), List.getElem?_eq_none (by omega)]
      have := hgen (nn + 1)
      rw [List.replicate_succ', List.flatten_append] at this
      exact this
  have hlen : ((List.replicate nn (cellsL z)).flatten).length = nn * te.info.size := by simp [hzs']
  have hst := run_storeCells (P := P) ((List.replicate nn (cellsL z)).flatten) 0 o l w (hw.getP hi) (by rw [hlen]; simpa using hfit) (fun u hu => by
    simp only [List.mem_flatten, List.mem_replicate] at hu
    obtain ⟨l2, ⟨_, rfl⟩, hu⟩ := hu
    exact allOne_spec hone u hu)
  simp only [Nat.add_zero, hlen, ← hl'] at hst
  have hs := hw.put hi hp
  refine .inl ⟨.inl rfl, .inr ⟨rfl, ?_⟩⟩
  by_cases h0 : nn = 0
  · subst h0
    have hll : l' = l := by rw [hl']; simp
    subst hll
    have hss : Sat G w H' := by
      have hb := hw.getP hi
      have hlt : b < w.heap.size := by
        rcases Nat.lt_or_ge b w.heap.size with h' | h'
        · exact h'
        · rw [Array.getElem?_eq_none h'] at hb; cases hb
      have hb' : w.heap[b] = cl l' e := by rw [Array.getElem?_eq_getElem hlt] at hb; exact Option.some.inj hb
      have : w.heap.setIfInBounds b (cl l' e) = w.heap := by rw [← hb']; simp [Array.setIfInBounds, hlt]
      rw [this] at hs; exact hs
    have : (execOp a.eval ⟨none, .call { callee := .builtin .clear, args := #[x], argTypes := #[t] }, ty, pos, af, gd⟩).run P w = .ok (.value (.tuple #[])) w := by
      simp [execOp, resolve, invoke, builtin, ha.ev hx, Builtin.clear_, run_underlying ht, hu]
    exact wpIn_value this ⟨hS _ hss, h a _ ha hss (hS _ hss)⟩
  · have : (execOp a.eval ⟨none, .call { callee := .builtin .clear, args := #[x], argTypes := #[t] }, ty, pos, af, gd⟩).run P w = .ok (.value (.tuple #[])) { w with heap := w.heap.setIfInBounds b (cl l' e) } := by
      obtain ⟨q, rfl⟩ : ∃ q, nn = q + 1 := ⟨nn - 1, by omega⟩
      simp only [execOp, resolve, invoke, builtin, Sem.run_bind, Sem.run_pure, Result.andThen_ok, List.map_toArray, List.map_cons, List.map_nil, ha.ev hx, Builtin.clear_, List.getElem?_toArray, List.getElem?_cons_zero, run_underlying ht, hu, run_zeroValue he hz, hcells, hst]
    exact wpIn_value this ⟨hS _ hs, h a _ ha hs (hS _ hs)⟩
theorem J_clearNil {x : Operand} {t : TypeId} {ty' : Ty} {a0 : Option Addr} {cap : Nat} 
    (hx : ev L x = some (.slice a0 0 cap)) (ht : U.get t = some ty')
    (h : J P f n R G S all rest k L H) : J P f n R G S all (.cons false true ⟨none, .call { callee := .builtin .clear, args := #[x], argTypes := #[t] }, ty, pos, af, gd⟩ rest) k L H := by
  intro a w ha hw hS
  refine .inl ⟨.inl rfl, .inr ⟨rfl, ?_⟩⟩
  have : (execOp a.eval ⟨none, .call { callee := .builtin .clear, args := #[x], argTypes := #[t] }, ty, pos, af, gd⟩).run P w = .ok (.value (.tuple #[])) w := by
    simp only [execOp, resolve, invoke, builtin, Sem.run_bind, Sem.run_pure, Result.andThen_ok, List.map_toArray, List.map_cons, List.map_nil, ha.ev hx, Builtin.clear_, List.getElem?_toArray, List.getElem?_cons_zero, run_underlying ht]
    cases a0 <;> simp
  exact wpIn_value this ⟨(Sx.of hS), h a w ha hw (Sx.of hS)⟩
end
end Go.SL
