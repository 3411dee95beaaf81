/- Engine, part X: ranges over functions: the loop's record, its rounds, calls of yield, the statement. Nothing here names a program. -/
import Derived.Test.YtokknepnmfklnaaEngU
import Derived.Test.YtokknepnmfklnaaEngI
import Derived.RangeFuncRecord
import Derived.RangeFuncIn
set_option linter.unusedVariables false
set_option linter.unusedSimpArgs false
namespace Go.SL
open Go

/-- The record of a loop of an activation whose slots are as told. -/
def loopP (l : Nat) (st : LoopState) (pd : Option Code) (f : FuncId) (n : Nat) (L : Lst) (ps : Array Tmp) (assign body : Code) (r : Nat) : HP := fun h =>
  ∃ tmps : Array Value, (tmps.size = n ∧ ∀ t v, fget L t = some v → tmps[t]? = some v) ∧ pts l (.loop { state := st, pending := pd, fn := f, tmps := tmps, params := ps, assign := assign, body := body, defers := r }) h

/-- What a call of yield does: a round, behind which there is what Post says, and whatever else stood. -/
def CtrY (P : Program) (l : Nat) (args : List Value) (Pre : List HP) (Post : Value → List HP → Prop) : Prop :=
  ∀ G w F, Sat G w (Pre ++ F) → ∃ fn tmps assign body, (Instr.yield l args.toArray).run P w = .ok (.round l fn tmps assign body) w ∧
    ∀ ro, RoundIn (fw ro) 0 P l fn tmps assign body w fun e w' => ∃ v H, e = .returned v ∧ Post v H ∧ Sat G w' (H ++ F)

def putL : List Nat → List Value → Lst → Lst
  | p :: ps, v :: vs, L => putL ps vs ((p, v) :: L)
  | _, _, L => L
def inB (n : Nat) : List Nat → Bool
  | [] => true
  | p :: ps => Nat.blt p n && inB n ps

theorem has_put {n : Nat} : ∀ (ps : List Nat) (vs : List Value) (L : Lst) (tmps : Array Value), inB n ps = true → tmps.size = n → (∀ t v, fget L t = some v → tmps[t]? = some v) →
    Has n (putL ps vs L) { tmps := (ps.zip vs).foldl (fun tmps (x : Nat × Value) => tmps.setIfInBounds x.1 x.2) tmps, defers := [] }
  | [], vs, L, tmps, _, hs, hg => ⟨hs, trivial, hg⟩
  | p :: ps, [], L, tmps, _, hs, hg => ⟨by simpa using hs, trivial, by simpa [putL] using hg⟩
  | p :: ps, v :: vs, L, tmps, hb, hs, hg => by
    simp only [inB, Bool.and_eq_true] at hb
    have h1 : Has n L { tmps := tmps, defers := [] } := ⟨hs, trivial, hg⟩
    have h2 := h1.put hb.1 v
    exact has_put ps vs _ _ hb.2 h2.1 h2.2.2

/-- What is owed at a round's end. -/
def EndsY (R : Ending → World → Prop) (G : Glob) (l : Nat) (F : List HP) (Post : Value → List HP → Prop) : Prop :=
  (G.ro = some l ∧ G.ds = []) ∧ ∀ v H w, Post v H → Sat G w (H ++ F) → R (.returned v) w

section
variable {P : Program} {f : FuncId} {n : Nat} {R : Ending → World → Prop} {G : Glob} {k : List Item} {L : Lst} {H : List HP} {l r : Nat} {st : LoopState} {pd : Option Code} {n0 : Nat} {f0 : FuncId} {L0 : Lst} {ps : Array Tmp} {assign body : Code}

theorem loopP_get {w : World} (hs : Sat G w (loopP l st pd f0 n0 L0 ps assign body r :: H)) : ∃ tmps : Array Value, (tmps.size = n0 ∧ ∀ t v, fget L0 t = some v → tmps[t]? = some v) ∧ Sat G w (pts l (.loop { state := st, pending := pd, fn := f0, tmps := tmps, params := ps, assign := assign, body := body, defers := r }) :: H) := by
  obtain ⟨t, o, u, hp, hpw, h1, h2, ⟨tmps, ht, hA⟩, hH, hd, he⟩ := hs
  exact ⟨tmps, ht, t, o, u, hp, hpw, h1, h2, hA, hH, hd, he⟩
theorem loopP_put {tmps : Array Value} (ht : tmps.size = n0 ∧ ∀ t v, fget L0 t = some v → tmps[t]? = some v) : Ent (pts l (.loop { state := st, pending := pd, fn := f0, tmps := tmps, params := ps, assign := assign, body := body, defers := r }) :: H) (loopP l st pd f0 n0 L0 ps assign body r :: H) :=
  fun h hs => ⟨h, sub.refl h, star_mono (fun h hp => ⟨tmps, ht, hp⟩) (fun _ h => h) hs⟩

/-- A round out of the walk of its body. -/
theorem CtrY.of_K {args : List Value} {Pre : List HP} {Post : Value → List HP → Prop} (hps : Nat.beq ps.toList.length args.length = true) (hin : inB n0 ps.toList = true)
    (h : ∀ G F R, EndsY R G l F Post → K P f0 n0 R G [.code assign, .beginRound, .code body] (putL ps.toList args L0) (loopP l .ready none f0 n0 L0 ps assign body r :: (Pre ++ F))) :
    CtrY P l args (loopP l .ready none f0 n0 L0 ps assign body r :: Pre) Post := by
  intro G w F hw
  obtain ⟨tmps, ht, hw1⟩ := loopP_get (H := Pre ++ F) hw
  have hg := hw1.get (i := 0) rfl
  have hsz : args.toArray.size = ps.size := by have := Nat.eq_of_beq_eq_true hps; simpa using this.symm
  refine ⟨_, _, _, _, run_yield hg hsz, fun ro => ⟨trivial, fun c cs _ => ?_⟩⟩
  have hk := h { G with ro := some l, ds := [] } F (fun e w' => ∃ v H, e = .returned v ∧ Post v H ∧ Sat G w' (H ++ F)) ⟨⟨rfl, rfl⟩, fun v H w' hp hs => ⟨v, H, rfl, hp, hs⟩⟩
  have hz : (ps.zip args.toArray).foldl (fun (tmps : Array Value) (x : Tmp × Value) => tmps.setIfInBounds x.1 x.2) tmps = (ps.toList.zip args).foldl (fun tmps (x : Nat × Value) => tmps.setIfInBounds x.1 x.2) tmps := by
    rw [← Array.foldl_toList, Array.toList_zip]
  have ha : HasG { G with ro := some l, ds := [] } n0 (putL ps.toList args L0) { tmps := (ps.zip args.toArray).foldl (fun (tmps : Array Value) (x : Tmp × Value) => tmps.setIfInBounds x.1 x.2) tmps, defers := [] } := ⟨by rw [hz]; exact has_put ps.toList args L0 tmps hin ht.1 ht.2, rfl⟩
  obtain ⟨v, w', ⟨v', H', he, hp, hs⟩, hst⟩ := hk _ w ha (hw1.ent (loopP_put ht)) (c :: cs) c cs rfl
  cases he
  exact ⟨.returned v, w', ⟨v, H', rfl, hp, hs⟩, (StepsIn.of_steps hst).mono fun m _ => fenced_fw P ro m⟩

theorem K_beginRound {k0 : List Item} (hk : advK 1000 k0 = .mk (.beginRound :: k)) {F : List HP} {Post : Value → List HP → Prop} (hR : EndsY R G l F Post)
    (h : K P f n R G k L (loopP l .busy pd f0 n0 L0 ps assign body r :: H)) : K P f n R G k0 L (loopP l .ready pd f0 n0 L0 ps assign body r :: H) := by
  refine K_advK 1000 hk ?_
  intro a w ha hw cs
  obtain ⟨tmps, ht, hw1⟩ := loopP_get hw
  have hg := hw1.get (i := 0) rfl
  have hb := run_beginRound (P := P) hg rfl
  have hw2 := (hw1.set0 (o' := .loop { state := .busy, pending := pd, fn := f0, tmps := tmps, params := ps, assign := assign, body := body, defers := r })).ent (loopP_put ht)
  exact (h a _ ha hw2 cs).of_steps (.one (stepR_beginRound (b := ({ (default : Frame) with fn := f, kind := .normal, roundOf := G.ro } : Frame)) hR.1.1 hb))
theorem round_end {a : Act} {w w' : World} {k1 : List Item} {cs : List Frame} {v : Value} (hro : G.ro = some l) (hR : R (.returned v) w') (hs : ∀ c cs', step P (lone (bf G.ro f a k1) (c :: cs') w) = .next (lone (c.finish v) cs' w')) : Owed P f R cs (lone (bf G.ro f a k1) cs w) G.ro := by
  rw [hro] at hs ⊢
  intro c cs' hcs
  subst hcs
  exact ⟨v, w', hR, .one (hs c cs')⟩
theorem endRound_sat {w : World} (jump : Option Code) (hw : Sat G w (loopP l st pd f0 n0 L0 ps assign body r :: H)) : ∃ w', (Instr.endRound l jump).run P w = .ok (.bool jump.isNone) w' ∧ Sat G w' (loopP l (if jump.isNone then .ready else .done) jump f0 n0 L0 ps assign body r :: H) := by
  obtain ⟨tmps, ht, hw1⟩ := loopP_get hw
  have hg := hw1.get (i := 0) rfl
  exact ⟨_, run_endRound (P := P) jump hg, (hw1.set0 (o' := .loop { state := if jump.isNone then .ready else .done, pending := jump, fn := f0, tmps := tmps, params := ps, assign := assign, body := body, defers := r })).ent (loopP_put ht)⟩
/-- The end of a round: off its end; by a return; by a jump out of it. -/
theorem K_roundEnd {k0 : List Item} {F Hq : List HP} {Post : Value → List HP → Prop} (hR : EndsY R G l F Post) (hk : advK 1000 k0 = .mk []) (he : Ent H (loopP l st pd f0 n0 L0 ps assign body r :: (Hq ++ F)))
    (hp : Post (.bool true) (loopP l .ready none f0 n0 L0 ps assign body r :: Hq)) : K P f n R G k0 L H := by
  refine K_advK 1000 hk ?_
  intro a w ha hw cs
  obtain ⟨w', h1, h2⟩ := endRound_sat (P := P) none (hw.ent he)
  exact round_end hR.1.1 (hR.2 _ _ w' hp h2) fun c cs' => stepR_round_end (b := ({ (default : Frame) with fn := f, kind := .normal, roundOf := G.ro } : Frame)) hR.1.1 rfl h1
theorem K_roundRet {k0 : List Item} {F Hq : List HP} {Post : Value → List HP → Prop} (hR : EndsY R G l F Post) (hk : advK 1000 k0 = .mk (.code .ret :: k)) (he : Ent H (loopP l st pd f0 n0 L0 ps assign body r :: (Hq ++ F)))
    (hp : Post (.bool false) (loopP l .done (some .ret) f0 n0 L0 ps assign body r :: Hq)) : K P f n R G k0 L H := by
  refine K_advK 1000 hk ?_
  intro a w ha hw cs
  obtain ⟨w', h1, h2⟩ := endRound_sat (P := P) (some .ret) (hw.ent he)
  exact round_end hR.1.1 (hR.2 _ _ w' hp h2) fun c cs' => stepR_round_ret (b := ({ (default : Frame) with fn := f, kind := .normal, roundOf := G.ro } : Frame)) hR.1.1 rfl h1
theorem K_roundExit {k0 : List Item} {id : Nat} {F Hq : List HP} {Post : Value → List HP → Prop} (hR : EndsY R G l F Post) (hk : advK 1000 k0 = .mk (.code (.exit id) :: k)) (hx : exitTo id k = none) (he : Ent H (loopP l st pd f0 n0 L0 ps assign body r :: (Hq ++ F)))
    (hp : Post (.bool false) (loopP l .done (some (.exit id)) f0 n0 L0 ps assign body r :: Hq)) : K P f n R G k0 L H := by
  refine K_advK 1000 hk ?_
  intro a w ha hw cs
  obtain ⟨w', h1, h2⟩ := endRound_sat (P := P) (some (.exit id)) (hw.ent he)
  exact round_end hR.1.1 (hR.2 _ _ w' hp h2) fun c cs' => stepR_round_exit (b := ({ (default : Frame) with fn := f, kind := .normal, roundOf := G.ro } : Frame)) hR.1.1 rfl hx h1

/-- The statement, at an outermost loop: the function that is ranged over, by its contract for whatever loop. -/
theorem K_range {k0 : List Item} {g : Operand} {gid : FuncId} {cap : Array Value} {Pre : Nat → Nat → List HP} {Fr : List HP} {Post : Nat → Nat → Value → List HP → Prop} (hk : advK 1000 k0 = .mk (.code (.rangeFunc g ps assign body) :: k)) (hro : G.ro = none)
    (hg : ev L g = some (.func (.func gid) #[] cap))
    (c : ∀ l r, Ctr P gid (.func (.yield l) #[] #[] :: cap.toList) (loopP l .ready none f n L ps assign body r :: Pre l r) (Post l r)) (he : ∀ l r, Ent H (Pre l r ++ Fr))
    (hend : ∀ l r v H', Post l r v H' → ∃ st pd H'', H' = loopP l st pd f n L ps assign body r :: H'' ∧ st ≠ .busy ∧
      K P f n R { G with ds := r :: G.ds } ((pd.map Item.code).toList ++ k) L (H'' ++ (pts r (.deferred (some [])) :: Fr))) : K P f n R G k0 L H := by
  refine K_advK 1000 hk ?_
  intro a w ha hw cs
  let b : Frame := { (default : Frame) with fn := f, kind := .normal, roundOf := G.ro }
  have hen := run_enterLoop_outer (P := P) (w := w) f a.tmps ps assign body
  rw [← hro] at hen
  have hw1 : Sat G ((w.alloc (.deferred (some []))).alloc (.loop { state := .ready, pending := none, fn := f, tmps := a.tmps, params := ps, assign, body, defers := w.heap.size }))
      (loopP (w.heap.size + 1) .ready none f n L ps assign body w.heap.size :: (Pre (w.heap.size + 1) w.heap.size ++ (pts w.heap.size (.deferred (some [])) :: Fr))) := by
    have h1 := hw.alloc (.deferred (some []))
    have h2 := h1.alloc (.loop { state := .ready, pending := none, fn := f, tmps := a.tmps, params := ps, assign := assign, body := body, defers := w.heap.size })
    have hsz : ({ w with heap := w.heap.push (.deferred (some [])) } : World).heap.size = w.heap.size + 1 := by simp
    rw [hsz] at h2
    refine Sat.ent h2 ?_
    refine (loopP_put ⟨ha.1.1, ha.1.2.2⟩).trans (Ent.cons _ ?_)
    refine (Ent.cons _ (he (w.heap.size + 1) w.heap.size)).trans ?_
    exact Ent.perm (List.perm_middle.symm)
  have hres : (resolve a.eval (rangeCall g (w.heap.size + 1)) 0).run P ((w.alloc (.deferred (some []))).alloc (.loop { state := .ready, pending := none, fn := f, tmps := a.tmps, params := ps, assign, body, defers := w.heap.size })) = .ok { target := .fn (.func gid) cap, args := #[.func (.yield (w.heap.size + 1)) #[] #[]] } ((w.alloc (.deferred (some []))).alloc (.loop { state := .ready, pending := none, fn := f, tmps := a.tmps, params := ps, assign, body, defers := w.heap.size })) := by
    simp only [resolve, rangeCall, Sem.run_bind, ha.ev hg, Deferred.ofValue, Sem.run_pure, Result.andThen_ok]
    simp [Act.eval]
  have hinv : (invoke (.fn (.func gid) cap) #[.func (.yield (w.heap.size + 1)) #[] #[]]).run P ((w.alloc (.deferred (some []))).alloc (.loop { state := .ready, pending := none, fn := f, tmps := a.tmps, params := ps, assign, body, defers := w.heap.size })) = .ok (.enter gid (Value.func (.yield (w.heap.size + 1)) #[] #[] :: cap.toList).toArray) ((w.alloc (.deferred (some []))).alloc (.loop { state := .ready, pending := none, fn := f, tmps := a.tmps, params := ps, assign, body, defers := w.heap.size })) := by
    simp only [invoke]
    rw [run_callFunc (c (w.heap.size + 1) w.heap.size).1]
    congr 2
    apply Array.ext'; simp
  have henter := stepR_rangeFunc (P := P) (b := b) (a := a) (k := k) (cs := cs) (w := w) (ps := ps) (assign := assign) (body := body) (g := g) hen hres hinv
  obtain ⟨e, w3, fr, ⟨v, H', rfl, hpost, hs3⟩, hcomes, hfn, hleave⟩ := (c (w.heap.size + 1) w.heap.size).2 G _ (pts w.heap.size (.deferred (some [])) :: Fr) hw1 (b.atR { a with defers := [{ target := .collected w.heap.size, args := #[] }] ++ a.defers } (.inRangeFunc (w.heap.size + 1) :: k) :: cs)
  obtain ⟨st, pd, H'', rfl, hst, hK⟩ := hend _ _ _ _ hpost
  obtain ⟨tmps, ht, hs4⟩ := loopP_get (H := H'' ++ (pts w.heap.size (.deferred (some [])) :: Fr)) hs3
  have hg4 := hs4.get (i := 0) rfl
  have hend4 := run_endLoop (P := P) hg4 hst
  have hs5 := (hs4.set0 (o' := .loop { state := .exhausted, pending := pd, fn := f, tmps := tmps, params := ps, assign := assign, body := body, defers := w.heap.size })).ent (Ent.drop _ _)
  have hback : step P (lone fr (b.atR { a with defers := [{ target := .collected w.heap.size, args := #[] }] ++ a.defers } (.inRangeFunc (w.heap.size + 1) :: k) :: cs) w3) = .next (lone (b.atR { a with defers := [{ target := .collected w.heap.size, args := #[] }] ++ a.defers } (.endRangeFunc (w.heap.size + 1) :: k)) cs w3) := by
    rw [← finish_atR_inRangeFunc (w.heap.size + 1) v]; exact step_leave_returned hleave
  have hlast := stepR_endRangeFunc (P := P) (b := b) (a := { a with defers := [{ target := .collected w.heap.size, args := #[] }] ++ a.defers }) (k := k) (cs := cs) hend4
  have hok := hK { a with defers := [{ target := .collected w.heap.size, args := #[] }] ++ a.defers } _ ⟨⟨ha.1.1, trivial, ha.1.2.2⟩, by rw [show ({ G with ds := w.heap.size :: G.ds } : Glob).ds = w.heap.size :: G.ds from rfl, List.map_cons, ha.2]; rfl⟩ hs5 cs
  exact Owed.of_steps (Steps.trans (.one henter) (Steps.trans hcomes (Steps.trans (.one hback) (.one hlast)))) hok

variable {S : World → Prop} {all : Array Oper} {rest : Pl} {d : Tmp} {ty : TypeId} {pos : String} {af : Array Edge} {gd : Option (Nat × Bool)}
/-- A call of yield. -/
theorem J_yield {fo : Operand} {args : Array Operand} {tys : Array TypeId} {vs : List Value} {Pre Fr : List HP} {Post : Value → List HP → Prop} (hd : Nat.blt d n = true)
    (hf : ev L fo = some (.func (.yield l) #[] #[])) (hargs : evs L args.toList [] = .mk vs) (c : CtrY P l vs Pre Post) (he : Ent H (Pre ++ Fr))
    (h : ∀ v H', Post v H' → J P f n R G S all rest k ((d, v) :: L) (H' ++ Fr))
    (hS : ∀ v H' w, Post v H' → Sat G w (H' ++ Fr) → Sx rest S w) :
    J P f n R G S all (.cons false true ⟨some d, .call { callee := .value fo, args := args, argTypes := tys }, ty, pos, af, gd⟩ rest) k L H := by
  intro a w ha hw _
  refine .inl ⟨.inl rfl, .inr ⟨rfl, ?_⟩⟩
  obtain ⟨fn, tmps, asg, bdy, hy, hr⟩ := c G w Fr (hw.ent he)
  have hr1 : (execOp a.eval ⟨some d, .call { callee := .value fo, args := args, argTypes := tys }, ty, pos, af, gd⟩).run P w = .ok (.round l fn tmps asg bdy) w := by
    simp only [execOp, resolve, Sem.run_bind, ha.ev hf, Deferred.ofValue, Sem.run_pure, Result.andThen_ok, invoke]
    rw [evs_arr ha.1 _ _ hargs]
    simpa using hy
  refine wpIn_other (fun c hc => by cases hc) hr1 ⟨fun h => by simp [fw] at h, RoundIn.mono (hr G.ro) ?_⟩
  rintro e w' ⟨v, H', rfl, hpost, hw'⟩
  exact ⟨hS v H' w' hpost hw', h v H' hpost _ w' (ha.put hd v) hw' (hS v H' w' hpost hw')⟩
end
end Go.SL
