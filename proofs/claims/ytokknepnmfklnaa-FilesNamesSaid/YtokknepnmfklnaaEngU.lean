/- Engine, part U: assertions sought out by themselves; calls and ends by them. Nothing here names a program. -/
import Derived.Test.YtokknepnmfklnaaEngH
set_option linter.unusedVariables false
set_option linter.unusedSimpArgs false
namespace Go.SL
open Go
theorem Ent.take1 {H H' rest : List HP} {A : HP} (i : Nat) (h : nthP i H [] = .mk A rest) (hr : Ent rest H') : Ent H (A :: H') :=
  (Ent.perm (by simpa using nthP_perm i H [] A rest h)).trans (Ent.cons A hr)
theorem Ent.toNil (H : List HP) : Ent H [] := fun h hs => ⟨fun _ => none, ⟨fun b o e => (by cases e), fun _ => rfl⟩⟩
/-- Found out by itself. -/
theorem entA {H H' : List HP} (h : Ent H H' := by (repeat' (first | exact Ent.refl _ | exact Ent.toNil _ | refine Ent.take1 0 rfl ?_ | refine Ent.take1 1 rfl ?_ | refine Ent.take1 2 rfl ?_ | refine Ent.take1 3 rfl ?_ | refine Ent.take1 4 rfl ?_ | refine Ent.take1 5 rfl ?_ | refine Ent.take1 6 rfl ?_ | refine Ent.take1 7 rfl ?_ | refine Ent.take1 8 rfl ?_ | refine Ent.take1 9 rfl ?_ | refine Ent.take1 10 rfl ?_ | refine Ent.take1 11 rfl ?_ | refine Ent.take1 12 rfl ?_ | refine Ent.take1 13 rfl ?_ | refine Ent.take1 14 rfl ?_ | refine (Ent.drop _ _).trans ?_))) : Ent H H' := h
section
variable {P : Program} {f : FuncId} {n : Nat} {R : Ending → World → Prop} {G : Glob} {k : List Item} {L : Lst} {H : List HP} {S : World → Prop} {all : Array Oper} {rest : Pl} {d : Tmp} {ty : TypeId} {pos : String} {af : Array Edge} {gd : Option (Nat × Bool)}
theorem J_callE {fo : Operand} {args : Array Operand} {tys : Array TypeId} {g : FuncId} {cap : Array Value} {vs : List Value} {Pre Fr : List HP} {Post : Value → List HP → Prop} (hd : Nat.blt d n = true)
    (hf : ev L fo = some (.func (.func g) #[] cap)) (hargs : evs L args.toList [] = .mk vs) {as : List Value} (has : as = vs ++ cap.toList) (c : Ctr P g as Pre Post) (he : Ent H (Pre ++ Fr))
    (h : ∀ v H', Post v H' → J P f n R G S all rest k ((d, v) :: L) (H' ++ Fr))
    (hS : ∀ v H' w, Post v H' → Sat G w (H' ++ Fr) → Sx rest S w) :
    J P f n R G S all (.cons false true ⟨some d, .call { callee := .value fo, args := args, argTypes := tys }, ty, pos, af, gd⟩ rest) k L H := by
  intro a w ha hw _
  refine .inl ⟨.inl rfl, .inr ⟨rfl, ?_⟩⟩
  have hr : (execOp a.eval ⟨some d, .call { callee := .value fo, args := args, argTypes := tys }, ty, pos, af, gd⟩).run P w = .ok (.enter g as.toArray) w := by
    simp only [execOp, resolve, Sem.run_bind, ha.ev hf, Deferred.ofValue, Sem.run_pure, Result.andThen_ok, invoke]
    rw [run_callFunc c.1, evs_arr ha.1 _ _ hargs, has]
    congr 2
    simp
  refine wpIn_call (fun c hc => by cases hc) hr (Calls.mono (c.2 G w Fr (hw.ent he)) ?_)
  rintro e w' ⟨v, H', rfl, hpost, hw'⟩
  exact ⟨v, rfl, hS v H' w' hpost hw', h v H' hpost _ w' (ha.put hd v) hw' (hS v H' w' hpost hw')⟩
theorem J_call0E {fo : Operand} {args : Array Operand} {tys : Array TypeId} {g : FuncId} {cap : Array Value} {vs : List Value} {Pre Fr : List HP} {Post : Value → List HP → Prop}
    (hf : ev L fo = some (.func (.func g) #[] cap)) (hargs : evs L args.toList [] = .mk vs) {as : List Value} (has : as = vs ++ cap.toList) (c : Ctr P g as Pre Post) (he : Ent H (Pre ++ Fr))
    (h : ∀ v H', Post v H' → J P f n R G S all rest k L (H' ++ Fr))
    (hS : ∀ v H' w, Post v H' → Sat G w (H' ++ Fr) → Sx rest S w) :
    J P f n R G S all (.cons false true ⟨none, .call { callee := .value fo, args := args, argTypes := tys }, ty, pos, af, gd⟩ rest) k L H := by
  intro a w ha hw _
  refine .inl ⟨.inl rfl, .inr ⟨rfl, ?_⟩⟩
  have hr : (execOp a.eval ⟨none, .call { callee := .value fo, args := args, argTypes := tys }, ty, pos, af, gd⟩).run P w = .ok (.enter g as.toArray) w := by
    simp only [execOp, resolve, Sem.run_bind, ha.ev hf, Deferred.ofValue, Sem.run_pure, Result.andThen_ok, invoke]
    rw [run_callFunc c.1, evs_arr ha.1 _ _ hargs, has]
    congr 2
    simp
  refine wpIn_call (fun c hc => by cases hc) hr (Calls.mono (c.2 G w Fr (hw.ent he)) ?_)
  rintro e w' ⟨v, H', rfl, hpost, hw'⟩
  exact ⟨v, rfl, hS v H' w' hpost hw', h v H' hpost _ w' ha hw' (hS v H' w' hpost hw')⟩
/-- Roads that come together: what is left behind them, once. m: how many items of what is left lie ahead of it. -/
theorem K_mid {k0 k' : List Item} {α : Type} (m : Nat) (I : α → Prop) (Lf : α → Lst) (Hf : α → List HP) (hk : advK 1000 (k0.drop m) = .mk k') (tail : ∀ y, I y → K P f n R G k' (Lf y) (Hf y))
    (h : (∀ y, I y → K P f n R G k' (Lf y) (Hf y)) → K P f n R G k0 L H) : K P f n R G k0 L H := h tail
theorem K_to {k0 k' : List Item} {α : Type} {I : α → Prop} {Lf : α → Lst} {Hf : α → List HP} (ih : ∀ y, I y → K P f n R G k' (Lf y) (Hf y)) (y : α) (hk : advK 1000 k0 = .mk k') (hI : I y)
    (hL : ∀ t v, fget (Lf y) t = some v → fget L t = some v) (hH : Ent H (Hf y)) : K P f n R G k0 L H := K_advK 1000 hk (K_sub hL (K_ent hH (ih y hI)))
/-- Cases at code, the roads to it ahead. -/
theorem K_adv1 {k0 k' : List Item} (hk : advK 1000 k0 = .mk k') (h : K P f n R G k' L H) : K P f n R G k0 L H := K_advK 1000 hk h
end
end Go.SL
