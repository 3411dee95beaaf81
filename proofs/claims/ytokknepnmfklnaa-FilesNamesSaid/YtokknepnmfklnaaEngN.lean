/- Engine, part N: append in place and anew, over rows that are told; cap; a slice with a third bound; slices.overlaps. Nothing here names a program. -/
import Derived.Test.YtokknepnmfklnaaEngG
import Derived.Test.YtokknepnmfklnaaEngI
import Derived.Test.YtokknepnmfklnaaFm
import GoSem.Extern.SlicesOverlaps
set_option linter.unusedVariables false
set_option linter.unusedSimpArgs false
namespace Go.SL
section
variable {P : Program} {U : Tr} [hU : TabOk P U] {f : FuncId} {n : Nat} {R : Ending → World → Prop} {G : Glob} {k : List Item} {L : Lst} {H H' : List HP} {S : World → Prop} {all : Array Oper} {rest : Pl}
  {ty : TypeId} {pos : String} {af : Array Edge} {gd : Option (Nat × Bool)} {m : Bool} {d : Tmp}
theorem run_appendIn {t t2 elem rty : TypeId} {ty' t2' te : Ty} {v2 : Value} {b o kk cap mm : Nat} {l news l' : List Value} {e : TypeId} {A : HP} {w : World} (i j : Nat)
    (ht : U.get t = some ty') (hu : ty'.und = .slice elem) (h2 : U.get t2 = some t2') (h2n : ∀ q, t2'.und ≠ .int q) (he : U.get elem = some te) (hw : Sat G w H)
    (hi : getL H i = some (pts b (cl l e))) (hj : getL H j = some A) (hv2 : Vw A v2 mm news) (hl2 : news.length = mm * te.info.size) (hone : ∀ u ∈ news, u.oneCell' = true) (hroom : kk + mm ≤ cap)
    (hfit : o + (kk + mm) * te.info.size ≤ l.length) (hl' : l' = l.take (o + kk * te.info.size) ++ news ++ l.drop (o + (kk + mm) * te.info.size)) :
    (Builtin.append_ #[t, t2] rty #[.slice (some ⟨b, o, none⟩) kk cap, v2]).run P w = .ok (.slice (some ⟨b, o, none⟩) (kk + mm) cap) { w with heap := w.heap.setIfInBounds b (cl l' e) } := by
  have hf := run_first (P := P) hv2 hw hj hl2
  have hnz : (t2'.und matches .int _) = false := by
    cases hq : t2'.und <;> first | rfl | exact absurd hq (h2n _)
  have hzeros : ∀ {w : World}, (underlying t2).run P w = .ok t2'.und w := fun {w} => run_underlying h2 w
  obtain ⟨a2, c2, hv', _⟩ := hv2
  subst hv'
  have hst := run_storeCells (P := P) news 0 (o + kk * te.info.size) l w (hw.getP hi) (by rw [hl2]; rw [Nat.add_mul] at hfit; omega) hone
  have e1 : o + kk * te.info.size + news.length = o + (kk + mm) * te.info.size := by rw [hl2, Nat.add_mul]; omega
  simp only [Nat.add_zero, e1, ← hl'] at hst
  simp [Builtin.append_, run_underlying ht, hu, run_sizeOf he, hzeros, hnz, Builtin.lenOf, hroom, hf, Addr.add_eq, hst]
/-- append where there is room: into the row itself; what is put there may lie in the same row. -/
theorem J_appendIn {x y : Operand} {t t2 elem : TypeId} {ty' t2' te : Ty} {v2 : Value} {b o kk cap mm : Nat} {l news l' : List Value} {e : TypeId} {A : HP} (i j : Nat) (hd : Nat.blt d n = true)
    (hx : ev L x = some (.slice (some ⟨b, o, none⟩) kk cap)) (hy : ev L y = some v2) (ht : U.get t = some ty') (hu : ty'.und = .slice elem) (h2 : U.get t2 = some t2') (h2n : (match t2'.und with | .int _ => false | _ => true) = true) (he : U.get elem = some te)
    (hi : getL H i = some (pts b (cl l e))) (hj : getL H j = some A) (hv2 : Vw A v2 mm news) (hl2 : news.length = mm * te.info.size) (hone : ∀ u ∈ news, u.oneCell' = true) (hroom : kk + mm ≤ cap)
    (hfit : o + (kk + mm) * te.info.size ≤ l.length) (hl' : l' = l.take (o + kk * te.info.size) ++ news ++ l.drop (o + (kk + mm) * te.info.size)) (hp : putP i (pts b (cl l' e)) H [] = .mk H')
    (hS : ∀ w, Sat G w H' → Sx rest S w)
    (h : J P f n R G S all rest k ((d, .slice (some ⟨b, o, none⟩) (kk + mm) cap) :: L) H') :
    J P f n R G S all (.cons false true ⟨some d, .call { callee := .builtin .append, args := #[x, y], argTypes := #[t, t2] }, ty, pos, af, gd⟩ rest) k L H := by
  refine J_act hd (fun u H1 => u = .slice (some ⟨b, o, none⟩) (kk + mm) cap ∧ H1 = H') (fun a w ha hw => ?_) ?_ ?_
  · have hr := run_appendIn (P := P) (rty := ty) i j ht hu h2 (fun q e => by rw [e] at h2n; cases h2n) he hw hi hj hv2 hl2 hone hroom hfit hl'
    refine ⟨_, _, H', ?_, ⟨rfl, rfl⟩, hw.put hi hp⟩
    simp [execOp, resolve, invoke, builtin, ha.ev hx, ha.ev hy, hr]
  · rintro u H1 w ⟨rfl, rfl⟩ hw; exact hS w hw
  · rintro u H1 ⟨rfl, rfl⟩; exact h
theorem zeroCells_list (z : Value) (q : Nat) : (Builtin.zeroCells z.cells q).toList = (List.replicate q (cellsL z)).flatten := by
  have hcs : z.cells.size = (cellsL z).length := by rw [cellsL_eq]; simp
  unfold Builtin.zeroCells
  simp only [Array.toList_map, Array.toList_range, hcs]
  rw [cellsL_eq]
  induction q with
  | zero => simp
  | succ q ih =>
    rw [List.replicate_succ', List.flatten_append, ← ih, Nat.succ_mul, List.range_add, List.map_append]
    congr 1
    simp only [List.map_map, List.flatten_cons, List.flatten_nil, List.append_nil]
    apply List.ext_getElem?
    intro j
    by_cases hj : j < (cellsL z).length
    · simp only [List.getElem?_map, List.getElem?_range hj, Option.map_some, Function.comp]
      rw [Nat.mul_comm, Nat.mul_add_mod, Nat.mod_eq_of_lt hj]
      simp [hj]
    · rw [List.getElem?_eq_none (by simp; omega), List.getElem?_eq_none (by omega)]
theorem run_appendZ {t t2 elem rty : TypeId} {ty' t2' te : Ty} {z : Value} {a0 : Option Addr} {kk cap mm : Nat} {q : IntKind} {cs : List Value} {A : HP} {w : World} (i : Nat)
    (ht : U.get t = some ty') (hu : ty'.und = .slice elem) (h2 : U.get t2 = some t2') (h2n : t2'.und = .int q) (he : U.get elem = some te) (hz : te.info.zero = some z) (hzs : (cellsL z).length = te.info.size) (hsz : 0 < te.info.size) (hw : Sat G w H)
    (hi : getL H i = some A) (hv : Vw A (.slice a0 kk cap) kk cs) (hl : cs.length = kk * te.info.size) (hgt : cap < kk + mm) (hm0 : 0 < mm)
    (hmax : kk + mm ≤ 9223372036854775807) (hmm : mm * te.info.bytes ≤ 140737488355328) (hbytes : (kk + mm) * te.info.bytes ≤ 140737488355328) :
    (Builtin.append_ #[t, t2] rty #[.slice a0 kk cap, .int .i64 (mm : Int)]).run P w = .ok (.slice (some ⟨w.heap.size, 0, none⟩) (kk + mm) (grownCap w (kk + mm) cap elem))
      (w.drew.alloc (cl (cs ++ (List.replicate mm (cellsL z)).flatten ++ (Builtin.zeroCells z.cells (grownCap w (kk + mm) cap elem - (kk + mm))).toList) elem)) := by
  have hzeros : ∀ {w : World}, (underlying t2).run P w = .ok t2'.und w := fun {w} => run_underlying h2 w
  have hnz : (t2'.und matches .int _) = true := by rw [h2n]
  have hgt' : ¬ kk + mm ≤ cap := by omega
  have hgs := growslice_fits (need := kk + mm) (old := cap) (bytes := te.info.bytes) (by omega) hbytes
  have hl1 := run_first (P := P) (G := G) (w := w.drew) hv (hw.draw _) hi hl
  have hnomax : ¬ ((9223372036854775807 : Int) < (kk : Int) + (mm : Int)) := by omega
  have hgs' : ¬ 281474976710656 < Builtin.nextslicecap (kk + mm) cap * te.info.bytes := by omega
  have hwr : IntKind.i64.wrap (mm : Int) = mm := wrap_in (by simp only [inK]; omega)
  have hneg : ¬ ((mm : Int) < 0) := by omega
  have hb2 : ¬ ((281474976710656 : Int) < (mm : Int) * (te.info.bytes : Int)) := by
    have : ((mm * te.info.bytes : Nat) : Int) ≤ 140737488355328 := by omega
    rw [Int.natCast_mul] at this; omega
  have hne : ¬ (mm * te.info.size = 0) := Nat.ne_of_gt (Nat.mul_pos hm0 hsz)
  have hzc := zeroCells_list z mm
  simp [Builtin.append_, run_underlying ht, hu, run_sizeOf he, hzeros, hnz, asInt, asIntOf, hwr, hneg, hb2, hgt', hnomax, hgs', Question.forced, run_typeInfo he, run_zeroValue he hz, newRow, hl1, grownCap, cl, hne, h2n]
  congr 2
  apply Array.ext'
  simp [hzc]
/-- append of so many zeros where there is no room: a new row, the old one stays. -/
theorem J_appendZ {x y : Operand} {t t2 elem : TypeId} {ty' t2' te : Ty} {z : Value} {a0 : Option Addr} {kk cap mm : Nat} {q : IntKind} {cs : List Value} {A : HP} (i : Nat) (hd : Nat.blt d n = true)
    (hx : ev L x = some (.slice a0 kk cap)) (hy : ev L y = some (.int .i64 (mm : Int))) (ht : U.get t = some ty') (hu : ty'.und = .slice elem) (h2 : U.get t2 = some t2') (h2n : t2'.und = .int q) (he : U.get elem = some te) (hz : te.info.zero = some z) (hzs : Nat.beq (cellsL z).length te.info.size = true) (hsz : Nat.blt 0 te.info.size = true)
    (hi : getL H i = some A) (hv : Vw A (.slice a0 kk cap) kk cs) (hl : cs.length = kk * te.info.size) (hgt : cap < kk + mm) (hm0 : 0 < mm)
    (hmax : kk + mm ≤ 9223372036854775807) (hmm : mm * te.info.bytes ≤ 140737488355328) (hbytes : (kk + mm) * te.info.bytes ≤ 140737488355328)
    (hS : ∀ v' w, Sat G w (slc elem te.info.size v' (kk + mm) (cs ++ (List.replicate mm (cellsL z)).flatten) :: H) → Sx rest S w)
    (h : ∀ v', J P f n R G S all rest k ((d, v') :: L) (slc elem te.info.size v' (kk + mm) (cs ++ (List.replicate mm (cellsL z)).flatten) :: H)) :
    J P f n R G S all (.cons false true ⟨some d, .call { callee := .builtin .append, args := #[x, y], argTypes := #[t, t2] }, ty, pos, af, gd⟩ rest) k L H := by
  refine J_act hd (fun u H1 => H1 = slc elem te.info.size u (kk + mm) (cs ++ (List.replicate mm (cellsL z)).flatten) :: H) (fun a w ha hw => ?_) ?_ ?_
  · have hr := run_appendZ (P := P) (rty := ty) i ht hu h2 h2n he hz (Nat.eq_of_beq_eq_true hzs) (by simpa [Nat.blt_eq] using hsz) hw hi hv hl hgt hm0 hmax hmm hbytes
    refine ⟨.slice (some ⟨w.heap.size, 0, none⟩) (kk + mm) (grownCap w (kk + mm) cap elem), w.drew.alloc (cl (cs ++ (List.replicate mm (cellsL z)).flatten ++ (Builtin.zeroCells z.cells (grownCap w (kk + mm) cap elem - (kk + mm))).toList) elem), _, ?_, rfl, ?_⟩
    · simp [execOp, resolve, invoke, builtin, ha.ev hx, ha.ev hy, hr]
    · have h5 := Sat.alloc (w := w.drew) (hw.draw _) (cl (cs ++ (List.replicate mm (cellsL z)).flatten ++ (Builtin.zeroCells z.cells (grownCap w (kk + mm) cap elem - (kk + mm))).toList) elem)
      refine h5.ent (Ent.fold (B := [_]) fun h hs => ⟨h, sub.refl h, ?_⟩)
      have hge := grownCap_ge w (kk + mm) cap elem
      have hzl : (List.replicate mm (cellsL z)).flatten.length = mm * te.info.size := by rw [flat_replicate, Nat.eq_of_beq_eq_true hzs]
      refine ⟨by simp only [List.length_append, hl, hzl, Nat.add_mul], .inr ⟨w.heap.size, 0, _, [], _, rfl, rfl, hge, ?_, by simpa using Sep_one hs⟩⟩
      have h7 : (Builtin.zeroCells z.cells (grownCap w (kk + mm) cap elem - (kk + mm))).size = (grownCap w (kk + mm) cap elem - (kk + mm)) * te.info.size := by rw [size_zeroCells, cellsL_eq]; simp [Nat.eq_of_beq_eq_true hzs]
      rw [List.length_append, hl, hzl, Array.length_toList, h7, ← Nat.add_mul, ← Nat.add_mul]
      exact Nat.le_of_eq (by congr 1; omega)
  · rintro u H1 w rfl hw; exact hS u w hw
  · rintro u H1 rfl; exact h u
theorem J_slice3 {t elem : TypeId} {ty' te : Ty} {x lo hi mx : Operand} {a0 : Option Addr} {len cap : Nat} {p q r : Int} {j1 j2 j3 : IntKind} (hd : Nat.blt d n = true)
    (ht : U.get t = some ty') (hu : ty'.und = .slice elem) (he : U.get elem = some te) (hx : ev L x = some (.slice a0 len cap)) (hlo : ev L lo = some (.int j1 p)) (hhi : ev L hi = some (.int j2 q)) (hmx : ev L mx = some (.int j3 r)) (h0 : 0 ≤ p) (hpq : p ≤ q) (hqr : q ≤ r) (hrc : r ≤ (cap : Int))
    (h : J P f n R G S all rest k ((d, .slice (sliceAt a0 r.toNat p.toNat te.info.size) (q.toNat - p.toNat) (r.toNat - p.toNat)) :: L) H) :
    J P f n R G S all (.cons m true ⟨some d, .slice t x (some lo) (some hi) (some mx), ty, pos, af, gd⟩ rest) k L H := by
  refine J_pure hd (fun a ha w => ?_) h
  have hb : (Instr.sliceBounds true len cap (some (a.eval lo)) (some (a.eval hi)) (some (a.eval mx))).run P w = .ok (p.toNat, q.toNat, r.toNat) w := by
    unfold Instr.sliceBounds
    have e1 : 0 ≤ r ∧ r ≤ (cap : Int) := ⟨by omega, hrc⟩
    have e2 : 0 ≤ q ∧ q ≤ ((r.toNat : Nat) : Int) := ⟨by omega, by omega⟩
    have e3 : 0 ≤ p ∧ p ≤ ((q.toNat : Nat) : Int) := ⟨h0, by omega⟩
    have e4 : q ≤ max r 0 := by omega
    have e5 : p ≤ max q 0 := by omega
    have e6 : 0 ≤ q := by omega
    simp [ha.ev hlo, ha.ev hhi, ha.ev hmx, Instr.sliceBound, asIntOf, e1, e2, e3, e4, e5, e6]
  simp only [execOp, ha.ev hx, Instr.sliceAt, Sem.run_bind, run_underlying ht, Result.andThen_ok, hu, Instr.slice, Option.map_some, hb, run_sizeOf he, Sem.run_pure, sliceAt]
  by_cases hc : p.toNat = r.toNat
  · simp [hc]
  · simp only [if_neg (Ne.symm hc), if_neg hc]
theorem J_overlaps {g : FuncId} {fn : Func} {args : Array Operand} {tys : Array TypeId} {tS elem : TypeId} {ty' te : Ty} {b1 o1 n1 c1 b2 o2 n2 c2 : Nat} {l1 l2 : List Value} {e1 e2 : TypeId} {Fr : List HP} {rs : Array TypeId} (is : List Nat) (hd : Nat.blt d n = true)
    (hf : P.funcs[g]? = some fn) (hb : fn.body = none) (hn : (fn.name == "runtime.NumGoroutine") = false) (hnx : (Extern.findNext fn).isNone = true) (he : Extern.find fn = some (Extern.SlicesOverlaps.overlaps #[tS, tS] rs))
    (ht : U.get tS = some ty') (hu : ty'.und = .slice elem) (hel : U.get elem = some te)
    (hargs : evs L args.toList [] = .mk [.slice (some ⟨b1, o1, none⟩) n1 c1, .slice (some ⟨b2, o2, none⟩) n2 c2]) (hi : pickE is [] H [] = .mk [pts b1 (cl l1 e1), pts b2 (cl l2 e2)] Fr)
    (h : J P f n R G S all rest k ((d, .bool false) :: L) H) :
    J P f n R G S all (.cons false true ⟨some d, .call { callee := .value (.func g), args := args, argTypes := tys }, ty, pos, af, gd⟩ rest) k L H := by
  refine J_read hd (fun a w ha hw => ?_) h
  have hw2 := hw.ent (Ent.pick is hi)
  have hne := Sat.ne hw2
  have hb1 : w.heap[b1]? = some (cl l1 e1) := hw2.getP (i := 0) rfl
  have hb2 : w.heap[b2]? = some (cl l2 e2) := hw2.getP (i := 1) rfl
  have hbn : (b1 == b2) = false := by simpa using hne
  have f1 : ∀ o, w.frozen? ⟨b1, o, none⟩ = false := fun o => frozen_of_block hb1
  have f2 : ∀ o, w.frozen? ⟨b2, o, none⟩ = false := fun o => frozen_of_block hb2
  have s1 : w.shape? b1 = some (e1, l1.length) := by simp [World.shape?, hb1, cl]
  have s2 : w.shape? b2 = some (e2, l2.length) := by simp [World.shape?, hb2, cl]
  simp only [execOp, resolve, Sem.run_bind, Act.eval, Deferred.ofValue, Sem.run_pure, Result.andThen_ok, invoke]
  rw [show (args.map fun x => a.eval x) = args.map a.eval from rfl] at *
  have hav := evs_arr ha _ _ hargs
  rw [show Array.map a.eval args = #[.slice (some ⟨b1, o1, none⟩) n1 c1, .slice (some ⟨b2, o2, none⟩) n2 c2] from hav]
  simp only [Array.empty_append, Array.append_empty]
  rw [run_extern hf hb hn hnx he]
  have hov : (Extern.SlicesOverlaps.overlaps #[tS, tS] rs #[.slice (some ⟨b1, o1, none⟩) n1 c1, .slice (some ⟨b2, o2, none⟩) n2 c2]).run P w = .ok (.bool false) w := by
    change Sem.run P (α := Value) (do
      let some t := (#[tS, tS] : Array TypeId)[0]? | stuck "slices.overlaps: no parameter types"
      let .slice elem ← underlying t | stuck "slices.overlaps: slice type expected"
      let size ← sizeOf elem
      match (some (⟨b1, o1, none⟩ : Addr) : Option Addr), (some (⟨b2, o2, none⟩ : Addr) : Option Addr) with
      | some a, some b =>
        if n1 = 0 ∨ n2 = 0 ∨ size = 0 then pure (Value.bool false)
        else if a.block != b.block && (← frozen a) && (← frozen b) then unsupported .addressObserved
        else do
          if a.block != b.block then do
            noView a; noView b
            if ← mayBeOne a b then return Value.bool ((← choose (.extern "sameAddr.stringBytes" 2)) == 1)
          pure (Value.bool (a.block == b.block && a.off < b.off + n2 * size && b.off < a.off + n1 * size))
      | _, _ => pure (Value.bool false)) w = _
    by_cases h0 : n1 = 0 ∨ n2 = 0 ∨ te.info.size = 0
    · simp [run_underlying ht, hu, run_sizeOf hel, h0]
    · simp [run_underlying ht, hu, run_sizeOf hel, h0, hbn, frozen, noView, viewAt, mayBeOne, stringish, shape, Sem.run, s1, s2, f1, f2, hne]
  rw [hov]
  rfl
theorem J_cap {x : Operand} {t : TypeId} {ty' : Ty} {e : TypeId} {a0 : Option Addr} {len cap : Nat} (hd : Nat.blt d n = true) (hx : ev L x = some (.slice a0 len cap)) (ht : U.get t = some ty') (hu : ty'.und = .slice e)
    (h : J P f n R G S all rest k ((d, .int .i64 (cap : Int)) :: L) H) : J P f n R G S all (.cons m true ⟨some d, .call { callee := .builtin .cap, args := #[x], argTypes := #[t] }, ty, pos, af, gd⟩ rest) k L H := by
  refine J_pure hd (fun a ha w => ?_) h
  simp [execOp, resolve, invoke, builtin, ha.ev hx, Builtin.cap_, run_underlying ht, hu, goInt]
end
end Go.SL
