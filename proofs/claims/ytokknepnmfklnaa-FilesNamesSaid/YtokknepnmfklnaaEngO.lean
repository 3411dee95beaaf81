/- Engine, part O: copy of a part; parts of a view. Nothing here names a program. -/
import Derived.Test.YtokknepnmfklnaaEngN
set_option linter.unusedVariables false
set_option linter.unusedSimpArgs false
namespace Go.SL
theorem Vw.front {A : HP} {b o n cap : Nat} {cs : List Value} (h : Vw A (.slice (Option.some ⟨b, o, none⟩) n cap) n cs) (i cap' q : Nat) : Vw A (.slice (Option.some ⟨b, o, none⟩) i cap') i (cs.take q) := by
  obtain ⟨a, cap2, hv, h0 | ⟨b', o', ha, hc⟩⟩ := h
  · subst h0; exact ⟨_, cap', rfl, .inl (by simp)⟩
  · simp only [Value.slice.injEq, true_and] at hv
    obtain ⟨rfl, _⟩ := hv
    simp only [Option.some.injEq, Addr.mk.injEq, and_true] at ha
    obtain ⟨rfl, rfl⟩ := ha
    refine ⟨_, cap', rfl, .inr ⟨b, o, rfl, fun h hA j c hj => ?_⟩⟩
    rw [List.getElem?_take] at hj
    split at hj
    · exact hc h hA j c hj
    · cases hj
theorem Vw.back {A : HP} {b o n cap : Nat} {cs : List Value} (h : Vw A (.slice (Option.some ⟨b, o, none⟩) n cap) n cs) (i cap' q : Nat) : Vw A (.slice (Option.some ⟨b, o + q, none⟩) i cap') i (cs.drop q) := by
  obtain ⟨a, cap2, hv, h0 | ⟨b', o', ha, hc⟩⟩ := h
  · subst h0; exact ⟨_, cap', rfl, .inl (by simp)⟩
  · simp only [Value.slice.injEq, true_and] at hv
    obtain ⟨rfl, _⟩ := hv
    simp only [Option.some.injEq, Addr.mk.injEq, and_true] at ha
    obtain ⟨rfl, rfl⟩ := ha
    refine ⟨_, cap', rfl, .inr ⟨b, o + q, rfl, fun h hA j c hj => ?_⟩⟩
    rw [List.getElem?_drop] at hj
    rw [Nat.add_assoc]
    exact hc h hA (q + j) c hj
theorem sliceAt_some (b o cap p sz : Nat) (h : p ≠ cap) : sliceAt (some ⟨b, o, none⟩) cap p sz = some ⟨b, o + p * sz, none⟩ := by
  unfold sliceAt; rw [if_neg h, Option.map_some, Addr.add_eq]
section
variable {P : Program} {U : Tr} [hU : TabOk P U] {f : FuncId} {n : Nat} {R : Ending → World → Prop} {G : Glob} {k : List Item} {L : Lst} {H H' : List HP} {S : World → Prop} {all : Array Oper} {rest : Pl}
  {ty : TypeId} {pos : String} {af : Array Edge} {gd : Option (Nat × Bool)} {m : Bool} {d : Tmp}
theorem K_slcF {e : TypeId} {sz nn : Nat} {v : Value} {cs : List Value} (i : Nat) (hi : getL H i = some (slc e sz v nn cs)) (h0 : 0 < nn)
    (h : ∀ b o c, v = .slice (some ⟨b, o, none⟩) nn c → nn ≤ c → cs.length = nn * sz → Vw (slc e sz v nn cs) v nn cs → K P f n R G k L H) : K P f n R G k L H :=
  K_sat fun ⟨w, hw⟩ => by
    obtain ⟨h1, _, hA⟩ := hw.getA hi
    have hv := Vw.of_slc e sz v nn cs ⟨h1, hA⟩
    obtain ⟨hl, ⟨a, rfl, rfl, _⟩ | ⟨b, o, cap, pre, junk, rfl, _, hc, _⟩⟩ := hA
    · omega
    · exact h _ _ _ rfl hc hl hv
theorem slc_openN {e : TypeId} {b o c nn sz : Nat} {cs : List Value} (h0 : 0 < nn) : ∀ h, slc e sz (.slice (some ⟨b, o, none⟩) nn c) nn cs h → ∃ x : List Value × List Value, (x.1.length = o ∧ nn ≤ c ∧ c * sz ≤ cs.length + x.2.length ∧ cs.length = nn * sz) ∧ Sep [pts b (cl (x.1 ++ cs ++ x.2) e)] h := by
  rintro h ⟨hl, ⟨a, hv, rfl, he⟩ | ⟨b', o', cap, pre, junk, hv, hp, hn, hc, hpt⟩⟩
  · omega
  · simp only [Value.slice.injEq, Option.some.injEq, Addr.mk.injEq, and_true, true_and] at hv
    obtain ⟨⟨rfl, rfl⟩, rfl⟩ := hv
    exact ⟨(pre, junk), ⟨hp, hn, hc, hl⟩, Sep_one' hpt⟩
theorem sliceAt_zero (b o cap sz : Nat) : sliceAt (some ⟨b, o, none⟩) cap 0 sz = some ⟨b, o, none⟩ := by
  unfold sliceAt; split
  · rfl
  · rw [Option.map_some, Addr.add_eq]; simp
theorem ins_a {pre c1 d c3 junk : List Value} {q s r : Nat} (h : pre.length + c1.length = q) (hd : d.length = s) (hr : r = q + s + (d ++ c3).length) (hj : s ≤ junk.length) :
    (pre ++ (c1 ++ (d ++ c3)) ++ junk).take (q + s) ++ (d ++ c3) ++ (pre ++ (c1 ++ (d ++ c3)) ++ junk).drop r = pre ++ c1 ++ d ++ (d ++ c3) ++ junk.drop s := by
  have e1 : pre ++ (c1 ++ (d ++ c3)) ++ junk = (pre ++ c1 ++ d) ++ (c3 ++ junk) := by simp only [List.append_assoc]
  have e2 : pre ++ (c1 ++ (d ++ c3)) ++ junk = (pre ++ (c1 ++ (d ++ c3)) ++ junk.take s) ++ junk.drop s := by rw [List.append_assoc (pre ++ (c1 ++ (d ++ c3))) (junk.take s) (junk.drop s), List.take_append_drop]
  have h1 : (pre ++ (c1 ++ (d ++ c3)) ++ junk).take (q + s) = pre ++ c1 ++ d := by rw [e1]; exact List.take_left' (by simp only [List.length_append]; omega)
  have h2 : (pre ++ (c1 ++ (d ++ c3)) ++ junk).drop r = junk.drop s := by
    rw [e2]; exact List.drop_left' (by simp only [List.length_append, List.length_take] at hr ⊢; omega)
  rw [h1, h2]
theorem ins_b {pre c1 d rest f : List Value} {q s r : Nat} (h : pre.length + c1.length = q) (hd : d.length = s) (hr : r = q + s) :
    (pre ++ c1 ++ d ++ rest).take q ++ f ++ (pre ++ c1 ++ d ++ rest).drop r = pre ++ (c1 ++ f) ++ rest := by
  have h1 : (pre ++ c1 ++ d ++ rest).take q = pre ++ c1 := by rw [List.append_assoc]; exact List.take_left' (by simp only [List.length_append]; omega)
  have h2 : (pre ++ c1 ++ d ++ rest).drop r = rest := List.drop_left' (by simp only [List.length_append]; omega)
  rw [h1, h2]; simp only [List.append_assoc]
theorem J_copyT {x y : Operand} {t t2 elem : TypeId} {ty' te : Ty} {v2 : Value} {b o dl dc mm : Nat} {l src l' : List Value} {e : TypeId} {A : HP} (i j : Nat) (hd : Nat.blt d n = true)
    (hx : ev L x = some (.slice (some ⟨b, o, none⟩) dl dc)) (hy : ev L y = some v2) (ht : U.get t = some ty') (hu : ty'.und = .slice elem) (he : U.get elem = some te)
    (hi : getL H i = some (pts b (cl l e))) (hj : getL H j = some A) (hv2 : Vw A v2 mm src) (hl2 : src.length = mm * te.info.size) (hone : ∀ u ∈ src.take (min mm dl * te.info.size), u.oneCell' = true)
    (hfit : o + (min mm dl) * te.info.size ≤ l.length) (hl' : l' = l.take o ++ src.take (min mm dl * te.info.size) ++ l.drop (o + min mm dl * te.info.size)) (hp : putP i (pts b (cl l' e)) H [] = .mk H')
    (hS : ∀ w, Sat G w H' → Sx rest S w)
    (h : J P f n R G S all rest k ((d, .int .i64 (min mm dl : Nat)) :: L) H') :
    J P f n R G S all (.cons false true ⟨some d, .call { callee := .builtin .copy, args := #[x, y], argTypes := #[t, t2] }, ty, pos, af, gd⟩ rest) k L H := by
  refine J_act hd (fun u H1 => u = .int .i64 (min mm dl : Nat) ∧ H1 = H') (fun a w ha hw => ?_) ?_ ?_
  · have hf := run_firstN (P := P) (q := min mm dl) hv2 hw hj hl2 (Nat.min_le_left _ _)
    obtain ⟨a2, c2, hv', _⟩ := hv2
    subst hv'
    have h3 : (src.take (min mm dl * te.info.size)).length = min mm dl * te.info.size := by rw [List.length_take, hl2]; exact Nat.min_eq_left (Nat.mul_le_mul_right _ (Nat.min_le_left _ _))
    have hst := run_storeCells (P := P) (src.take (min mm dl * te.info.size)) 0 o l w (hw.getP hi) (by rw [h3]; simpa using hfit) hone
    simp only [Nat.add_zero, h3, ← hl'] at hst
    refine ⟨_, _, H', ?_, ⟨rfl, rfl⟩, hw.put hi hp⟩
    simp only [execOp, resolve, invoke, builtin, Sem.run_bind, Sem.run_pure, Result.andThen_ok, List.map_toArray, List.map_cons, List.map_nil, ha.ev hx, ha.ev hy, Builtin.copy_, List.getElem?_toArray, List.getElem?_cons_zero, List.getElem?_cons_succ,
      run_underlying ht, hu, Builtin.lenOf, run_sizeOf he]
    rw [show Nat.min mm dl = min mm dl from rfl]
    simp only [hf, Result.andThen_ok, hst, goInt]
  · rintro u H1 w ⟨rfl, rfl⟩ hw; exact hS w hw
  · rintro u H1 ⟨rfl, rfl⟩; exact h

end
end Go.SL
