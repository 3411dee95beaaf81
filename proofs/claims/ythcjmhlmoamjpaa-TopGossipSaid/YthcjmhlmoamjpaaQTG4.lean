/- Texts of one claim, joined: EngX, Fm, EngN, EngO, EngP, EngQ, EngR, Tab, Tl0. -/
import Derived.Test.YthcjmhlmoamjpaaQTG3
import Derived.RangeFuncRecord
import Derived.RangeFuncIn
import GoSem.Extern.SlicesOverlaps
import Derived.Test.YthcjmhlmoamjpaaProg
/- Engine, part X: ranges over functions: the loop's record, its rounds, calls of yield, the statement. Nothing here names a program. -/
set_option linter.unusedVariables false
set_option linter.unusedSimpArgs false
namespace Go.SL
open Go

/-- The record of a loop of an activation whose slots are as told. -/
def loopP (l : Nat) (st : LoopState) (pd : Option Code) (f : FuncId) (n : Nat) (L : Lst) (ps : Array Tmp) (assign body : Code) (r : Nat) : HP := fun h =>
  ∃ tmps : Array Value, (tmps.size = n ∧ ∀ t v, fget L t = some v → tmps[t]? = some v) ∧ pts l (.loop { state := st, pending := pd, fn := f, tmps := tmps, params := ps, assign := assign, body := body, defers := r }) h

/-- What a call of yield does: a round, behind which there is what Post says, and whatever else stood. -/
def CtrY (P : Program) (l : Nat) (args : List Value) (Pre : List HP) (Post : Value → List HP → Prop) : Prop :=
  ∀ G w F, Sat G w (Pre ++ F) → ∃ fn tmps assign body, (Instr.yield l args.toArray).run P w = .ok (.round l fn tmps assign body) w ∧
    ∀ ro, RoundIn (fw ro) 0 P l fn tmps assign body w fun e w' => ∃ v H, e = .returned v ∧ Post v H ∧ Sat G w' (H ++ F)

def putL : List Nat → List Value → Lst → Lst
  | p :: ps, v :: vs, L => putL ps vs ((p, v) :: L)
  | _, _, L => L
def inB (n : Nat) : List Nat → Bool
  | [] => true
  | p :: ps => Nat.blt p n && inB n ps

theorem has_put {n : Nat} : ∀ (ps : List Nat) (vs : List Value) (L : Lst) (tmps : Array Value), inB n ps = true → tmps.size = n → (∀ t v, fget L t = some v → tmps[t]? = some v) →
    Has n (putL ps vs L) { tmps := (ps.zip vs).foldl (fun tmps (x : Nat × Value) => tmps.setIfInBounds x.1 x.2) tmps, defers := [] }
  | [], vs, L, tmps, _, hs, hg => ⟨hs, trivial, hg⟩
  | p :: ps, [], L, tmps, _, hs, hg => ⟨by simpa using hs, trivial, by simpa [putL] using hg⟩
  | p :: ps, v :: vs, L, tmps, hb, hs, hg => by
    simp only [inB, Bool.and_eq_true] at hb
    have h1 : Has n L { tmps := tmps, defers := [] } := ⟨hs, trivial, hg⟩
    have h2 := h1.put hb.1 v
    exact has_put ps vs _ _ hb.2 h2.1 h2.2.2

/-- What is owed at a round's end. -/
def EndsY (R : Ending → World → Prop) (G : Glob) (l : Nat) (F : List HP) (Post : Value → List HP → Prop) : Prop :=
  (G.ro = some l ∧ G.ds = []) ∧ ∀ v H w, Post v H → Sat G w (H ++ F) → R (.returned v) w

section
variable {P : Program} {f : FuncId} {n : Nat} {R : Ending → World → Prop} {G : Glob} {k : List Item} {L : Lst} {H : List HP} {l r : Nat} {st : LoopState} {pd : Option Code} {n0 : Nat} {f0 : FuncId} {L0 : Lst} {ps : Array Tmp} {assign body : Code}

theorem loopP_get {w : World} (hs : Sat G w (loopP l st pd f0 n0 L0 ps assign body r :: H)) : ∃ tmps : Array Value, (tmps.size = n0 ∧ ∀ t v, fget L0 t = some v → tmps[t]? = some v) ∧ Sat G w (pts l (.loop { state := st, pending := pd, fn := f0, tmps := tmps, params := ps, assign := assign, body := body, defers := r }) :: H) := by
  obtain ⟨t, o, u, hp, hpw, h1, h2, ⟨tmps, ht, hA⟩, hH, hd, he⟩ := hs
  exact ⟨tmps, ht, t, o, u, hp, hpw, h1, h2, hA, hH, hd, he⟩
theorem loopP_put {tmps : Array Value} (ht : tmps.size = n0 ∧ ∀ t v, fget L0 t = some v → tmps[t]? = some v) : Ent (pts l (.loop { state := st, pending := pd, fn := f0, tmps := tmps, params := ps, assign := assign, body := body, defers := r }) :: H) (loopP l st pd f0 n0 L0 ps assign body r :: H) :=
  fun h hs => ⟨h, sub.refl h, star_mono (fun h hp => ⟨tmps, ht, hp⟩) (fun _ h => h) hs⟩

/-- A round out of the walk of its body. -/
theorem CtrY.of_K {args : List Value} {Pre : List HP} {Post : Value → List HP → Prop} (hps : Nat.beq ps.toList.length args.length = true) (hin : inB n0 ps.toList = true)
    (h : ∀ G F R, EndsY R G l F Post → K P f0 n0 R G [.code assign, .beginRound, .code body] (putL ps.toList args L0) (loopP l .ready none f0 n0 L0 ps assign body r :: (Pre ++ F))) :
    CtrY P l args (loopP l .ready none f0 n0 L0 ps assign body r :: Pre) Post := by
  intro G w F hw
  obtain ⟨tmps, ht, hw1⟩ := loopP_get (H := Pre ++ F) hw
  have hg := hw1.get (i := 0) rfl
  have hsz : args.toArray.size = ps.size := by have := Nat.eq_of_beq_eq_true hps; simpa using this.symm
  refine ⟨_, _, _, _, run_yield hg hsz, fun ro => ⟨trivial, fun c cs _ => ?_⟩⟩
  have hk := h { G with ro := some l, ds := [] } F (fun e w' => ∃ v H, e = .returned v ∧ Post v H ∧ Sat G w' (H ++ F)) ⟨⟨rfl, rfl⟩, fun v H w' hp hs => ⟨v, H, rfl, hp, hs⟩⟩
  have hz : (ps.zip args.toArray).foldl (fun (tmps : Array Value) (x : Tmp × Value) => tmps.setIfInBounds x.1 x.2) tmps = (ps.toList.zip args).foldl (fun tmps (x : Nat × Value) => tmps.setIfInBounds x.1 x.2) tmps := by
    rw [← Array.foldl_toList, Array.toList_zip]
  have ha : HasG { G with ro := some l, ds := [] } n0 (putL ps.toList args L0) { tmps := (ps.zip args.toArray).foldl (fun (tmps : Array Value) (x : Tmp × Value) => tmps.setIfInBounds x.1 x.2) tmps, defers := [] } := ⟨by rw [hz]; exact has_put ps.toList args L0 tmps hin ht.1 ht.2, rfl⟩
  obtain ⟨v, w', ⟨v', H', he, hp, hs⟩, hst⟩ := hk _ w ha (hw1.ent (loopP_put ht)) (c :: cs) c cs rfl
  cases he
  exact ⟨.returned v, w', ⟨v, H', rfl, hp, hs⟩, (StepsIn.of_steps hst).mono fun m _ => fenced_fw P ro m⟩

theorem K_beginRound {k0 : List Item} (hk : advK 1000 k0 = .mk (.beginRound :: k)) {F : List HP} {Post : Value → List HP → Prop} (hR : EndsY R G l F Post)
    (h : K P f n R G k L (loopP l .busy pd f0 n0 L0 ps assign body r :: H)) : K P f n R G k0 L (loopP l .ready pd f0 n0 L0 ps assign body r :: H) := by
  refine K_advK 1000 hk ?_
  intro a w ha hw cs
  obtain ⟨tmps, ht, hw1⟩ := loopP_get hw
  have hg := hw1.get (i := 0) rfl
  have hb := run_beginRound (P := P) hg rfl
  have hw2 := (hw1.set0 (o' := .loop { state := .busy, pending := pd, fn := f0, tmps := tmps, params := ps, assign := assign, body := body, defers := r })).ent (loopP_put ht)
  exact (h a _ ha hw2 cs).of_steps (.one (stepR_beginRound (b := ({ (default : Frame) with fn := f, kind := .normal, roundOf := G.ro } : Frame)) hR.1.1 hb))
theorem round_end {a : Act} {w w' : World} {k1 : List Item} {cs : List Frame} {v : Value} (hro : G.ro = some l) (hR : R (.returned v) w') (hs : ∀ c cs', step P (lone (bf G.ro f a k1) (c :: cs') w) = .next (lone (c.finish v) cs' w')) : Owed P f R cs (lone (bf G.ro f a k1) cs w) G.ro := by
  rw [hro] at hs ⊢
  intro c cs' hcs
  subst hcs
  exact ⟨v, w', hR, .one (hs c cs')⟩
theorem endRound_sat {w : World} (jump : Option Code) (hw : Sat G w (loopP l st pd f0 n0 L0 ps assign body r :: H)) : ∃ w', (Instr.endRound l jump).run P w = .ok (.bool jump.isNone) w' ∧ Sat G w' (loopP l (if jump.isNone then .ready else .done) jump f0 n0 L0 ps assign body r :: H) := by
  obtain ⟨tmps, ht, hw1⟩ := loopP_get hw
  have hg := hw1.get (i := 0) rfl
  exact ⟨_, run_endRound (P := P) jump hg, (hw1.set0 (o' := .loop { state := if jump.isNone then .ready else .done, pending := jump, fn := f0, tmps := tmps, params := ps, assign := assign, body := body, defers := r })).ent (loopP_put ht)⟩
/-- The end of a round: off its end; by a return; by a jump out of it. -/
theorem K_roundEnd {k0 : List Item} {F Hq : List HP} {Post : Value → List HP → Prop} (hR : EndsY R G l F Post) (hk : advK 1000 k0 = .mk []) (he : Ent H (loopP l st pd f0 n0 L0 ps assign body r :: (Hq ++ F)))
    (hp : Post (.bool true) (loopP l .ready none f0 n0 L0 ps assign body r :: Hq)) : K P f n R G k0 L H := by
  refine K_advK 1000 hk ?_
  intro a w ha hw cs
  obtain ⟨w', h1, h2⟩ := endRound_sat (P := P) none (hw.ent he)
  exact round_end hR.1.1 (hR.2 _ _ w' hp h2) fun c cs' => stepR_round_end (b := ({ (default : Frame) with fn := f, kind := .normal, roundOf := G.ro } : Frame)) hR.1.1 rfl h1
theorem K_roundRet {k0 : List Item} {F Hq : List HP} {Post : Value → List HP → Prop} (hR : EndsY R G l F Post) (hk : advK 1000 k0 = .mk (.code .ret :: k)) (he : Ent H (loopP l st pd f0 n0 L0 ps assign body r :: (Hq ++ F)))
    (hp : Post (.bool false) (loopP l .done (some .ret) f0 n0 L0 ps assign body r :: Hq)) : K P f n R G k0 L H := by
  refine K_advK 1000 hk ?_
  intro a w ha hw cs
  obtain ⟨w', h1, h2⟩ := endRound_sat (P := P) (some .ret) (hw.ent he)
  exact round_end hR.1.1 (hR.2 _ _ w' hp h2) fun c cs' => stepR_round_ret (b := ({ (default : Frame) with fn := f, kind := .normal, roundOf := G.ro } : Frame)) hR.1.1 rfl h1
theorem K_roundExit {k0 : List Item} {id : Nat} {F Hq : List HP} {Post : Value → List HP → Prop} (hR : EndsY R G l F Post) (hk : advK 1000 k0 = .mk (.code (.exit id) :: k)) (hx : exitTo id k = none) (he : Ent H (loopP l st pd f0 n0 L0 ps assign body r :: (Hq ++ F)))
    (hp : Post (.bool false) (loopP l .done (some (.exit id)) f0 n0 L0 ps assign body r :: Hq)) : K P f n R G k0 L H := by
  refine K_advK 1000 hk ?_
  intro a w ha hw cs
  obtain ⟨w', h1, h2⟩ := endRound_sat (P := P) (some (.exit id)) (hw.ent he)
  exact round_end hR.1.1 (hR.2 _ _ w' hp h2) fun c cs' => stepR_round_exit (b := ({ (default : Frame) with fn := f, kind := .normal, roundOf := G.ro } : Frame)) hR.1.1 rfl hx h1

/-- The statement, at an outermost loop: the function that is ranged over, by its contract for whatever loop. -/
theorem K_range {k0 : List Item} {g : Operand} {gid : FuncId} {cap : Array Value} {Pre : Nat → Nat → List HP} {Fr : List HP} {Post : Nat → Nat → Value → List HP → Prop} (hk : advK 1000 k0 = .mk (.code (.rangeFunc g ps assign body) :: k)) (hro : G.ro = none)
    (hg : ev L g = some (.func (.func gid) #[] cap))
    (c : ∀ l r, Ctr P gid (.func (.yield l) #[] #[] :: cap.toList) (loopP l .ready none f n L ps assign body r :: Pre l r) (Post l r)) (he : ∀ l r, Ent H (Pre l r ++ Fr))
    (hend : ∀ l r v H', Post l r v H' → ∃ st pd H'', H' = loopP l st pd f n L ps assign body r :: H'' ∧ st ≠ .busy ∧
      K P f n R { G with ds := r :: G.ds } ((pd.map Item.code).toList ++ k) L (H'' ++ (pts r (.deferred (some [])) :: Fr))) : K P f n R G k0 L H := by
  refine K_advK 1000 hk ?_
  intro a w ha hw cs
  let b : Frame := { (default : Frame) with fn := f, kind := .normal, roundOf := G.ro }
  have hen := run_enterLoop_outer (P := P) (w := w) f a.tmps ps assign body
  rw [← hro] at hen
  have hw1 : Sat G ((w.alloc (.deferred (some []))).alloc (.loop { state := .ready, pending := none, fn := f, tmps := a.tmps, params := ps, assign, body, defers := w.heap.size }))
      (loopP (w.heap.size + 1) .ready none f n L ps assign body w.heap.size :: (Pre (w.heap.size + 1) w.heap.size ++ (pts w.heap.size (.deferred (some [])) :: Fr))) := by
    have h1 := hw.alloc (.deferred (some []))
    have h2 := h1.alloc (.loop { state := .ready, pending := none, fn := f, tmps := a.tmps, params := ps, assign := assign, body := body, defers := w.heap.size })
    have hsz : ({ w with heap := w.heap.push (.deferred (some [])) } : World).heap.size = w.heap.size + 1 := by simp
    rw [hsz] at h2
    refine Sat.ent h2 ?_
    refine (loopP_put ⟨ha.1.1, ha.1.2.2⟩).trans (Ent.cons _ ?_)
    refine (Ent.cons _ (he (w.heap.size + 1) w.heap.size)).trans ?_
    exact Ent.perm (List.perm_middle.symm)
  have hres : (resolve a.eval (rangeCall g (w.heap.size + 1)) 0).run P ((w.alloc (.deferred (some []))).alloc (.loop { state := .ready, pending := none, fn := f, tmps := a.tmps, params := ps, assign, body, defers := w.heap.size })) = .ok { target := .fn (.func gid) cap, args := #[.func (.yield (w.heap.size + 1)) #[] #[]] } ((w.alloc (.deferred (some []))).alloc (.loop { state := .ready, pending := none, fn := f, tmps := a.tmps, params := ps, assign, body, defers := w.heap.size })) := by
    simp only [resolve, rangeCall, Sem.run_bind, ha.ev hg, Deferred.ofValue, Sem.run_pure, Result.andThen_ok]
    simp [Act.eval]
  have hinv : (invoke (.fn (.func gid) cap) #[.func (.yield (w.heap.size + 1)) #[] #[]]).run P ((w.alloc (.deferred (some []))).alloc (.loop { state := .ready, pending := none, fn := f, tmps := a.tmps, params := ps, assign, body, defers := w.heap.size })) = .ok (.enter gid (Value.func (.yield (w.heap.size + 1)) #[] #[] :: cap.toList).toArray) ((w.alloc (.deferred (some []))).alloc (.loop { state := .ready, pending := none, fn := f, tmps := a.tmps, params := ps, assign, body, defers := w.heap.size })) := by
    simp only [invoke]
    rw [run_callFunc (c (w.heap.size + 1) w.heap.size).1]
    congr 2
    apply Array.ext'; simp
  have henter := stepR_rangeFunc (P := P) (b := b) (a := a) (k := k) (cs := cs) (w := w) (ps := ps) (assign := assign) (body := body) (g := g) hen hres hinv
  obtain ⟨e, w3, fr, ⟨v, H', rfl, hpost, hs3⟩, hcomes, hfn, hleave⟩ := (c (w.heap.size + 1) w.heap.size).2 G _ (pts w.heap.size (.deferred (some [])) :: Fr) hw1 (b.atR { a with defers := [{ target := .collected w.heap.size, args := #[] }] ++ a.defers } (.inRangeFunc (w.heap.size + 1) :: k) :: cs)
  obtain ⟨st, pd, H'', rfl, hst, hK⟩ := hend _ _ _ _ hpost
  obtain ⟨tmps, ht, hs4⟩ := loopP_get (H := H'' ++ (pts w.heap.size (.deferred (some [])) :: Fr)) hs3
  have hg4 := hs4.get (i := 0) rfl
  have hend4 := run_endLoop (P := P) hg4 hst
  have hs5 := (hs4.set0 (o' := .loop { state := .exhausted, pending := pd, fn := f, tmps := tmps, params := ps, assign := assign, body := body, defers := w.heap.size })).ent (Ent.drop _ _)
  have hback : step P (lone fr (b.atR { a with defers := [{ target := .collected w.heap.size, args := #[] }] ++ a.defers } (.inRangeFunc (w.heap.size + 1) :: k) :: cs) w3) = .next (lone (b.atR { a with defers := [{ target := .collected w.heap.size, args := #[] }] ++ a.defers } (.endRangeFunc (w.heap.size + 1) :: k)) cs w3) := by
    rw [← finish_atR_inRangeFunc (w.heap.size + 1) v]; exact step_leave_returned hleave
  have hlast := stepR_endRangeFunc (P := P) (b := b) (a := { a with defers := [{ target := .collected w.heap.size, args := #[] }] ++ a.defers }) (k := k) (cs := cs) hend4
  have hok := hK { a with defers := [{ target := .collected w.heap.size, args := #[] }] ++ a.defers } _ ⟨⟨ha.1.1, trivial, ha.1.2.2⟩, by rw [show ({ G with ds := w.heap.size :: G.ds } : Glob).ds = w.heap.size :: G.ds from rfl, List.map_cons, ha.2]; rfl⟩ hs5 cs
  exact Owed.of_steps (Steps.trans (.one henter) (Steps.trans hcomes (Steps.trans (.one hback) (.one hlast)))) hok

variable {S : World → Prop} {all : Array Oper} {rest : Pl} {d : Tmp} {ty : TypeId} {pos : String} {af : Array Edge} {gd : Option (Nat × Bool)}
/-- A call of yield. -/
theorem J_yield {fo : Operand} {args : Array Operand} {tys : Array TypeId} {vs : List Value} {Pre Fr : List HP} {Post : Value → List HP → Prop} (hd : Nat.blt d n = true)
    (hf : ev L fo = some (.func (.yield l) #[] #[])) (hargs : evs L args.toList [] = .mk vs) (c : CtrY P l vs Pre Post) (he : Ent H (Pre ++ Fr))
    (h : ∀ v H', Post v H' → J P f n R G S all rest k ((d, v) :: L) (H' ++ Fr))
    (hS : ∀ v H' w, Post v H' → Sat G w (H' ++ Fr) → Sx rest S w) :
    J P f n R G S all (.cons false true ⟨some d, .call { callee := .value fo, args := args, argTypes := tys }, ty, pos, af, gd⟩ rest) k L H := by
  intro a w ha hw _
  refine .inl ⟨.inl rfl, .inr ⟨rfl, ?_⟩⟩
  obtain ⟨fn, tmps, asg, bdy, hy, hr⟩ := c G w Fr (hw.ent he)
  have hr1 : (execOp a.eval ⟨some d, .call { callee := .value fo, args := args, argTypes := tys }, ty, pos, af, gd⟩).run P w = .ok (.round l fn tmps asg bdy) w := by
    simp only [execOp, resolve, Sem.run_bind, ha.ev hf, Deferred.ofValue, Sem.run_pure, Result.andThen_ok, invoke]
    rw [evs_arr ha.1 _ _ hargs]
    simpa using hy
  refine wpIn_other (fun c hc => by cases hc) hr1 ⟨fun h => by simp [fw] at h, RoundIn.mono (hr G.ro) ?_⟩
  rintro e w' ⟨v, H', rfl, hpost, hw'⟩
  exact ⟨hS v H' w' hpost hw', h v H' hpost _ w' (ha.put hd v) hw' (hS v H' w' hpost hw')⟩
end
end Go.SL

/- files: the disk as plain data, what each call makes of it, and how it lies in memory. No program is named here but by the numbers of types that the memory's rows bear (parameters). -/
set_option linter.unusedVariables false
namespace Go.SL
theorem Ent.unsep (l H : List HP) : Ent (Sep l :: H) (l ++ H) := fun h hs => ⟨h, sub.refl h, Sep_append' hs⟩
theorem Ent.resep (l H : List HP) : Ent (l ++ H) (Sep l :: H) := fun h hs => ⟨h, sub.refl h, Sep_append hs⟩

/-! ## rows of bytes that nobody writes any more -/
abbrev Arrs := List (Nat × List Value)
def arrS (e : TypeId) (M : Arrs) : HP := Sep (M.map fun x => pts x.1 (cl x.2 e))
/-- The slice v holds the bytes bs, in one of these rows. -/
def BIn (M : Arrs) (v : Value) (bs : List UInt8) : Prop :=
  ∃ a cap, v = .slice a bs.length cap ∧ bs.length ≤ cap ∧ (bs = [] ∨ ∃ b o cs, a = Option.some ⟨b, o, none⟩ ∧ (b, cs) ∈ M ∧ (cs.drop o).take bs.length = bV bs)
theorem BIn.mono {M M' : Arrs} {v : Value} {bs : List UInt8} (h : BIn M v bs) (hs : ∀ x ∈ M, x ∈ M') : BIn M' v bs := by
  obtain ⟨a, cap, hv, hc, h0 | ⟨b, o, cs, ha, hm, ht⟩⟩ := h
  · exact ⟨a, cap, hv, hc, .inl h0⟩
  · exact ⟨a, cap, hv, hc, .inr ⟨b, o, cs, ha, hs _ hm, ht⟩⟩
theorem BIn.nil (M : Arrs) (a : Option Addr) (cap : Nat) : BIn M (.slice a 0 cap) [] := ⟨a, cap, rfl, Nat.zero_le _, .inl rfl⟩
theorem Sep_mem {l : List HP} {A : HP} {h : Hp} (hA : A ∈ l) (hs : Sep l h) : ∃ h', sub h' h ∧ A h' := by
  obtain ⟨i, hi⟩ := List.getElem?_of_mem hA
  exact star_left (Sep_perm (perm_of_get hi) h hs)
theorem BIn.view {M : Arrs} {v : Value} {bs : List UInt8} (h : BIn M v bs) (e : TypeId) : Vw (arrS e M) v bs.length (bV bs) := by
  obtain ⟨a, cap, rfl, _, h0 | ⟨b, o, cs, ha, hm, ht⟩⟩ := h
  · subst h0; exact ⟨a, cap, rfl, .inl rfl⟩
  · have h1 : Vw (pts b (cl cs e)) (.slice a bs.length cap) bs.length (bV bs) := by
      rw [ha]; exact Vw.pts (by rw [bV_length]; exact ht)
    refine h1.mono fun h hs => ?_
    exact Sep_mem (List.mem_map.2 ⟨(b, cs), hm, rfl⟩) hs
theorem BIn.shape {M : Arrs} {v : Value} {bs : List UInt8} (h : BIn M v bs) : ∃ a cap, v = .slice a bs.length cap ∧ bs.length ≤ cap := by
  obtain ⟨a, cap, hv, hc, _⟩ := h; exact ⟨a, cap, hv, hc⟩
/-- A new row among them. -/
theorem arrS_add (e : TypeId) (b : Nat) (cs : List Value) (M : Arrs) (H : List HP) : Ent (pts b (cl cs e) :: arrS e M :: H) (arrS e ((b, cs) :: M) :: H) :=
  Ent.fold (B := [_, _]) fun h hs => ⟨h, sub.refl h, star_mono (fun _ h => h) (fun _ h => Sep_one h) hs⟩
theorem BIn.row {M : Arrs} {b cap : Nat} {bs : List UInt8} (hc : bs.length ≤ cap) : BIn ((b, bV bs) :: M) (.slice (Option.some ⟨b, 0, none⟩) bs.length cap) bs :=
  ⟨_, cap, rfl, hc, .inr ⟨b, 0, bV bs, rfl, by simp, by rw [← bV_length]; simp⟩⟩
/-- A slice of its own becomes one of these. -/
theorem arrS_slc (e : TypeId) (v : Value) (bs : List UInt8) (M : Arrs) : ∀ h, star (slc e 1 v bs.length (bV bs)) (arrS e M) h → ∃ M', BIn M' v bs ∧ (∀ x ∈ M, x ∈ M') ∧ arrS e M' h := by
  rintro h ⟨h1, h2, ⟨hl, ⟨a, rfl, hn, he⟩ | ⟨b, o, cap, pre, junk, rfl, hp, hn, hc, hpt⟩⟩, hM, hd, hj⟩
  · have hb : bs = [] := List.eq_nil_of_length_eq_zero hn
    subst hb
    exact ⟨M, BIn.nil M a 0, fun _ h => h, emp_star ⟨h1, h2, he, hM, hd, hj⟩⟩
  · refine ⟨(b, pre ++ bV bs ++ junk) :: M, ⟨_, cap, rfl, hn, .inr ⟨b, o, pre ++ bV bs ++ junk, rfl, by simp, ?_⟩⟩, fun x hx => by simp [hx], ⟨h1, h2, hpt, hM, hd, hj⟩⟩
    subst hp
    rw [List.append_assoc, List.drop_left, ← bV_length bs, List.take_left]
/-- A part of what a slice holds. -/
theorem BIn.tail {M : Arrs} {b o n cap : Nat} {x : UInt8} {bs : List UInt8} (h : BIn M (.slice (Option.some ⟨b, o, none⟩) n cap) (x :: bs)) (o' cap' : Nat) (h1 : bs ≠ [] → o' = o + 1) (hc' : bs.length ≤ cap') : BIn M (.slice (Option.some ⟨b, o', none⟩) bs.length cap') bs := by
  by_cases h0 : bs = []
  · subst h0; exact BIn.nil _ _ _
  · have := h1 h0
    subst this
    obtain ⟨a, cap2, hv, _, h2 | ⟨b', o2, cs, ha, hm, ht⟩⟩ := h
    · cases h2
    · simp only [Value.slice.injEq] at hv
      obtain ⟨rfl, _, rfl⟩ := hv
      simp only [Option.some.injEq, Addr.mk.injEq, and_true] at ha
      obtain ⟨rfl, rfl⟩ := ha
      refine ⟨_, cap', rfl, hc', .inr ⟨b, o + 1, cs, rfl, hm, ?_⟩⟩
      rw [List.length_cons] at ht
      rw [show o + 1 = 1 + o by omega, ← List.drop_drop]
      have h3 := congrArg (List.drop 1) ht
      rw [List.drop_take] at h3
      simpa [bV, Nat.add_comm] using h3

/-- A piece of what a slice holds. -/
theorem BIn.piece {M : Arrs} {b o n cap : Nat} {bs : List UInt8} (h : BIn M (.slice (Option.some ⟨b, o, none⟩) n cap) bs) (o' cap' p k : Nat) (hpk : p + k ≤ bs.length) (h1 : k ≠ 0 → o' = o + p) (hc' : k ≤ cap') : BIn M (.slice (Option.some ⟨b, o', none⟩) k cap') ((bs.drop p).take k) := by
  have hl : ((bs.drop p).take k).length = k := by rw [List.length_take, List.length_drop]; omega
  by_cases h0 : k = 0
  · subst h0; rw [List.take_zero]; exact BIn.nil _ _ _
  · have := h1 h0
    subst this
    obtain ⟨a, cap2, hv, _, h2 | ⟨b', o2, cs, ha, hm, ht⟩⟩ := h
    · subst h2; simp only [List.length_nil] at hpk; omega
    · simp only [Value.slice.injEq] at hv
      obtain ⟨rfl, _, rfl⟩ := hv
      simp only [Option.some.injEq, Addr.mk.injEq, and_true] at ha
      obtain ⟨rfl, rfl⟩ := ha
      refine ⟨_, cap', by rw [hl], by rw [hl]; exact hc', .inr ⟨b, o + p, cs, rfl, hm, ?_⟩⟩
      rw [hl, ← List.drop_drop]
      have h3 := congrArg (fun l => (l.drop p).take k) ht
      simp only [List.drop_take, List.take_take] at h3
      rw [show min k (bs.length - p) = k by omega] at h3
      rw [h3]
      simp only [bV, List.map_drop, List.map_take]
theorem BIn.cut {M : Arrs} {a : Option Addr} {n cap : Nat} {bs : List UInt8} (h : BIn M (.slice a n cap) bs) (p k : Nat) (hpk : p + k ≤ bs.length) : BIn M (.slice (sliceAt a cap p 1) k (cap - p)) ((bs.drop p).take k) := by
  obtain ⟨a', cap', hv, hc, h0⟩ := h
  simp only [Value.slice.injEq] at hv
  obtain ⟨rfl, hn, rfl⟩ := hv
  by_cases hk : k = 0
  · subst hk; rw [List.take_zero]; exact BIn.nil _ _ _
  · rcases h0 with h0 | ⟨b, o, cs, rfl, hm, ht⟩
    · subst h0; simp only [List.length_nil] at hpk; omega
    · have e : sliceAt (Option.some ⟨b, o, none⟩) cap p 1 = Option.some ⟨b, o + p, none⟩ := by
        unfold sliceAt
        rw [if_neg (by omega), Option.map_some, Addr.add_eq, Nat.mul_one]
      rw [e]
      exact BIn.piece (o := o) (n := bs.length) (cap := cap) ⟨_, _, rfl, hc, .inr ⟨b, o, cs, rfl, hm, ht⟩⟩ _ _ p k hpk (fun _ => rfl) (by omega)
/-! ## stores: many assertions of one make, as one -/
def stock {α : Type} (g : α → HP) (l : List α) : HP := Sep (l.map g)
theorem stock_out {α : Type} (g : α → HP) {l : List α} {i : Nat} {x : α} (hi : l[i]? = Option.some x) (H : List HP) : Ent (stock g l :: H) (g x :: stock g (l.eraseIdx i) :: H) := fun h hs => by
  refine ⟨h, sub.refl h, star_assoc' (star_mono (fun h hs => ?_) (fun _ h => h) hs)⟩
  have h1 : (l.map g)[i]? = Option.some (g x) := by simp [hi]
  have h2 := Sep_perm (perm_of_get h1) h hs
  rw [← map_eraseIdx'] at h2
  exact h2
theorem stock_in {α : Type} (g : α → HP) {l : List α} {i : Nat} {x : α} (hi : l[i]? = Option.some x) (H : List HP) : Ent (g x :: stock g (l.eraseIdx i) :: H) (stock g l :: H) := fun h hs => by
  refine ⟨h, sub.refl h, star_mono (fun h hs => ?_) (fun _ h => h) (star_assoc hs)⟩
  have h1 : (l.map g)[i]? = Option.some (g x) := by simp [hi]
  refine Sep_perm (perm_of_get h1).symm h ?_
  rw [← map_eraseIdx']
  exact hs
/-- Put back as another one, in the same place. -/
theorem stock_set {α : Type} (g : α → HP) {l : List α} {i : Nat} {x y : α} (hi : l[i]? = Option.some x) (H : List HP) : Ent (g y :: stock g (l.eraseIdx i) :: H) (stock g (l.set i y) :: H) := by
  have hlt : i < l.length := by
    rcases Nat.lt_or_ge i l.length with h | h
    · exact h
    · rw [List.getElem?_eq_none h] at hi; cases hi
  have h1 : (l.set i y)[i]? = Option.some y := by simp [hlt]
  have h2 := stock_in g h1 H
  have h3 : (l.set i y).eraseIdx i = l.eraseIdx i := by
    clear hi h1 h2
    induction l generalizing i with
    | nil => simp
    | cons z l ih => cases i with
      | zero => simp
      | succ i => simp at hlt ⊢; exact ih hlt
  rw [h3] at h2
  exact h2
theorem stock_add {α : Type} (g : α → HP) (x : α) (l : List α) (H : List HP) : Ent (g x :: stock g l :: H) (stock g (x :: l) :: H) := fun h hs => ⟨h, sub.refl h, star_assoc hs⟩
theorem stock_mem {α : Type} {g : α → HP} {l : List α} {x : α} (hx : x ∈ l) {h : Hp} (hs : stock g l h) : ∃ h', sub h' h ∧ g x h' := Sep_mem (List.mem_map.2 ⟨x, hx, rfl⟩) hs

theorem arrS_nil (e : TypeId) (H : List HP) : Ent H (arrS e [] :: H) := Ent.addEmp H
theorem stock_nil {α : Type} (g : α → HP) (H : List HP) : Ent H (stock g [] :: H) := Ent.addEmp H
/-! ## the disk as plain data -/
structure Ab where
  room : Nat
  fs : List (Nat × List UInt8 × List UInt8)
  names : List (ByteArray × Nat)
  states : List (List (ByteArray × Nat))
  writes : List (Nat × Nat × List UInt8)
  plan : List UInt8
  off : Bool
namespace Ab
def meet (A : Ab) (may : Bool) : Nat × Ab :=
  if may = false then (1, A) else if A.off = true then (7, A) else match A.plan with
  | [] => (0, A)
  | x :: p => if x = 1 then (6, { A with plan := p }) else if x = 2 then (7, { A with plan := p, off := true }) else (0, { A with plan := p })
def lookIn (l : List (ByteArray × Nat)) (name : ByteArray) : Option Nat := (l.find? fun x => decide (x.1 = name)).map (·.2)
def look (A : Ab) (name : ByteArray) : Option Nat := lookIn A.names name
def file (A : Ab) (f : Nat) : List UInt8 × List UInt8 := ((A.fs.find? fun x => decide (x.1 = f)).map (·.2)).getD ([], [])
def now (A : Ab) (f : Nat) : List UInt8 := (A.file f).1
def sure (A : Ab) (f : Nat) : List UInt8 := (A.file f).2
def find (A : Ab) (name : ByteArray) (may : Bool) : Nat × Option Nat × Ab :=
  if (A.meet may).1 = 0 then match (A.meet may).2.look name with
    | none => (4, none, (A.meet may).2)
    | some f => (0, some f, (A.meet may).2)
  else ((A.meet may).1, none, (A.meet may).2)
def used (A : Ab) : Nat := (A.names.map fun x => (A.now x.2).length).sum
def new (room : Nat) : Ab := ⟨room, [], [], [[]], [], [], false⟩
def setN (l : List (ByteArray × Nat)) (k : ByteArray) (f : Nat) : List (ByteArray × Nat) := if (lookIn l k).isSome then l.map (fun x => if x.1 = k then (k, f) else x) else l ++ [(k, f)]
def delN (l : List (ByteArray × Nat)) (k : ByteArray) : List (ByteArray × Nat) := l.filter fun x => !decide (x.1 = k)
/-- Names changed. -/
def chg (A : Ab) (nm : List (ByteArray × Nat)) : Ab := { A with names := nm, states := A.states ++ [nm] }
def create (A : Ab) (ok : Bool) (name : ByteArray) (f : Nat) : Nat × Ab :=
  if (A.meet ok).1 = 0 then
    if ((A.meet ok).2.look name).isSome then (5, (A.meet ok).2)
    else if 200 ≤ (A.meet ok).2.names.length then (3, (A.meet ok).2)
    else (0, { (A.meet ok).2.chg ((A.meet ok).2.names ++ [(name, f)]) with fs := (f, [], []) :: (A.meet ok).2.fs })
  else ((A.meet ok).1, (A.meet ok).2)
def remove (A : Ab) (ok : Bool) (name : ByteArray) : Nat × Ab := match A.find name ok with
  | (0, some _, A1) => (0, A1.chg (delN A1.names name))
  | (e, _, A1) => (e, A1)
def rename (A : Ab) (ok : Bool) (old name : ByteArray) : Nat × Ab := match A.find old ok with
  | (0, some f, A1) => (0, A1.chg (setN (delN A1.names old) name f))
  | (e, _, A1) => (e, A1)
def upd (fs : List (Nat × List UInt8 × List UInt8)) (f : Nat) (n : List UInt8) : List (Nat × List UInt8 × List UInt8) := fs.map fun x => if x.1 = f then (x.1, n, x.2.2) else x
def write (A : Ab) (ok : Bool) (name : ByteArray) (at_ : Nat) (b : List UInt8) : Nat × Ab :=
  if (A.find name ok).1 = 0 then match (A.find name ok).2.1 with
    | some f => if (A.find name ok).2.2.room < (A.find name ok).2.2.used + (at_ + b.length - ((A.find name ok).2.2.now f).length) then (3, (A.find name ok).2.2)
      else (0, { (A.find name ok).2.2 with fs := upd (A.find name ok).2.2.fs f (wroteL ((A.find name ok).2.2.now f) at_ b), writes := (A.find name ok).2.2.writes ++ [(f, at_, b)] })
    | none => (0, (A.find name ok).2.2)
  else ((A.find name ok).1, (A.find name ok).2.2)
def size (A : Ab) (name : ByteArray) : Nat × Nat := match A.look name with
  | none => (0, 4)
  | some f => ((A.now f).length, 0)
def read (A : Ab) (name : ByteArray) (at_ n : Int) : List UInt8 × Nat :=
  if A.off = true then ([], 7) else match A.look name with
    | none => ([], 4)
    | some f => if at_ < 0 ∨ n < 0 ∨ ((A.now f).length : Int) < at_ ∨ ((A.now f).length : Int) - at_ < n then ([], 1) else (((A.now f).drop at_.toNat).take n.toNat, 0)
def syncNames (A : Ab) : Nat × Ab := if (A.meet true).1 = 0 then (0, { (A.meet true).2 with states := [(A.meet true).2.names] }) else ((A.meet true).1, (A.meet true).2)
def updS (fs : List (Nat × List UInt8 × List UInt8)) (f : Nat) : List (Nat × List UInt8 × List UInt8) := fs.map fun x => if x.1 = f then (x.1, x.2.1, x.2.1) else x
def sync (A : Ab) (ok : Bool) (name : ByteArray) : Nat × Ab :=
  if (A.find name ok).1 = 0 then match (A.find name ok).2.1 with
    | some f => (0, { (A.find name ok).2.2 with fs := updS (A.find name ok).2.2.fs f, writes := (A.find name ok).2.2.writes.filter fun x => !decide (x.1 = f) })
    | none => (0, (A.find name ok).2.2)
  else ((A.find name ok).1, (A.find name ok).2.2)
/-- What is kept of one write: whole if it is told, or cut, or nothing. -/
def kept (stay : List UInt8) (torn cut : Int) (i : Nat) (b : List UInt8) : Option (List UInt8) :=
  if (i : Int) = torn then (let c := b.take (max 0 (min cut b.length)).toNat; if c = [] then none else some c)
  else if (i / 8 < stay.length ∧ ((stay.getD (i / 8) 0).toNat / 2 ^ (i % 8)) % 2 = 1) then some b else none
def updSure (fs : List (Nat × List UInt8 × List UInt8)) (f : Nat) (s : List UInt8) : List (Nat × List UInt8 × List UInt8) := fs.map fun x => if x.1 = f then (x.1, x.2.1, s) else x
/-- The writes that last, in their order, from number i on. -/
def lasts (stay : List UInt8) (torn cut : Int) : Nat → List (Nat × Nat × List UInt8) → List (Nat × List UInt8 × List UInt8) → List (Nat × List UInt8 × List UInt8)
  | _, [], fs => fs
  | i, w :: ws, fs => match kept stay torn cut i w.2.2 with
    | none => lasts stay torn cut (i + 1) ws fs
    | some c => lasts stay torn cut (i + 1) ws (updSure fs w.1 (wroteL (((fs.find? fun x => decide (x.1 = w.1)).map (·.2)).getD ([], [])).2 w.2.1 c))
def reach (sts : List (List (ByteArray × Nat))) : List Nat := sts.flatMap fun st => st.map (·.2)
def crash (A : Ab) (last : Int) (stay : List UInt8) (torn cut : Int) : Ab :=
  let nm := A.states.getD (max 0 (min last (A.states.length - 1))).toNat []
  let fs := lasts stay torn cut 0 A.writes A.fs
  { A with names := nm, states := [nm], writes := [], plan := [], off := false, fs := fs.map fun x => if x.1 ∈ reach (A.states ++ [nm]) then (x.1, x.2.2, x.2.2) else x }
end Ab
end Go.SL

/- Engine, part N: append in place and anew, over rows that are told; cap; a slice with a third bound; slices.overlaps. Nothing here names a program. -/
set_option linter.unusedVariables false
set_option linter.unusedSimpArgs false
namespace Go.SL
section
variable {P : Program} {U : Tr} [hU : TabOk P U] {f : FuncId} {n : Nat} {R : Ending → World → Prop} {G : Glob} {k : List Item} {L : Lst} {H H' : List HP} {S : World → Prop} {all : Array Oper} {rest : Pl}
  {ty : TypeId} {pos : String} {af : Array Edge} {gd : Option (Nat × Bool)} {m : Bool} {d : Tmp}
theorem run_appendIn {t t2 elem rty : TypeId} {ty' t2' te : Ty} {v2 : Value} {b o kk cap mm : Nat} {l news l' : List Value} {e : TypeId} {A : HP} {w : World} (i j : Nat)
    (ht : U.get t = some ty') (hu : ty'.und = .slice elem) (h2 : U.get t2 = some t2') (h2n : ∀ q, t2'.und ≠ .int q) (he : U.get elem = some te) (hw : Sat G w H)
    (hi : getL H i = some (pts b (cl l e))) (hj : getL H j = some A) (hv2 : Vw A v2 mm news) (hl2 : news.length = mm * te.info.size) (hone : ∀ u ∈ news, u.oneCell' = true) (hroom : kk + mm ≤ cap)
    (hfit : o + (kk + mm) * te.info.size ≤ l.length) (hl' : l' = l.take (o + kk * te.info.size) ++ news ++ l.drop (o + (kk + mm) * te.info.size)) :
    (Builtin.append_ #[t, t2] rty #[.slice (some ⟨b, o, none⟩) kk cap, v2]).run P w = .ok (.slice (some ⟨b, o, none⟩) (kk + mm) cap) { w with heap := w.heap.setIfInBounds b (cl l' e) } := by
  have hf := run_first (P := P) hv2 hw hj hl2
  have hnz : (t2'.und matches .int _) = false := by
    cases hq : t2'.und <;> first | rfl | exact absurd hq (h2n _)
  have hzeros : ∀ {w : World}, (underlying t2).run P w = .ok t2'.und w := fun {w} => run_underlying h2 w
  obtain ⟨a2, c2, hv', _⟩ := hv2
  subst hv'
  have hst := run_storeCells (P := P) news 0 (o + kk * te.info.size) l w (hw.getP hi) (by rw [hl2]; rw [Nat.add_mul] at hfit; omega) hone
  have e1 : o + kk * te.info.size + news.length = o + (kk + mm) * te.info.size := by rw [hl2, Nat.add_mul]; omega
  simp only [Nat.add_zero, e1, ← hl'] at hst
  simp [Builtin.append_, run_underlying ht, hu, run_sizeOf he, hzeros, hnz, Builtin.lenOf, hroom, hf, Addr.add_eq, hst]
/-- append where there is room: into the row itself; what is put there may lie in the same row. -/
theorem J_appendIn {x y : Operand} {t t2 elem : TypeId} {ty' t2' te : Ty} {v2 : Value} {b o kk cap mm : Nat} {l news l' : List Value} {e : TypeId} {A : HP} (i j : Nat) (hd : Nat.blt d n = true)
    (hx : ev L x = some (.slice (some ⟨b, o, none⟩) kk cap)) (hy : ev L y = some v2) (ht : U.get t = some ty') (hu : ty'.und = .slice elem) (h2 : U.get t2 = some t2') (h2n : (match t2'.und with | .int _ => false | _ => true) = true) (he : U.get elem = some te)
    (hi : getL H i = some (pts b (cl l e))) (hj : getL H j = some A) (hv2 : Vw A v2 mm news) (hl2 : news.length = mm * te.info.size) (hone : ∀ u ∈ news, u.oneCell' = true) (hroom : kk + mm ≤ cap)
    (hfit : o + (kk + mm) * te.info.size ≤ l.length) (hl' : l' = l.take (o + kk * te.info.size) ++ news ++ l.drop (o + (kk + mm) * te.info.size)) (hp : putP i (pts b (cl l' e)) H [] = .mk H')
    (hS : ∀ w, Sat G w H' → Sx rest S w)
    (h : J P f n R G S all rest k ((d, .slice (some ⟨b, o, none⟩) (kk + mm) cap) :: L) H') :
    J P f n R G S all (.cons false true ⟨some d, .call { callee := .builtin .append, args := #[x, y], argTypes := #[t, t2] }, ty, pos, af, gd⟩ rest) k L H := by
  refine J_act hd (fun u H1 => u = .slice (some ⟨b, o, none⟩) (kk + mm) cap ∧ H1 = H') (fun a w ha hw => ?_) ?_ ?_
  · have hr := run_appendIn (P := P) (rty := ty) i j ht hu h2 (fun q e => by rw [e] at h2n; cases h2n) he hw hi hj hv2 hl2 hone hroom hfit hl'
    refine ⟨_, _, H', ?_, ⟨rfl, rfl⟩, hw.put hi hp⟩
    simp [execOp, resolve, invoke, builtin, ha.ev hx, ha.ev hy, hr]
  · rintro u H1 w ⟨rfl, rfl⟩ hw; exact hS w hw
  · rintro u H1 ⟨rfl, rfl⟩; exact h
theorem zeroCells_list (z : Value) (q : Nat) : (Builtin.zeroCells z.cells q).toList = (List.replicate q (cellsL z)).flatten := by
  have hcs : z.cells.size = (cellsL z).length := by rw [cellsL_eq]; simp
  unfold Builtin.zeroCells
  simp only [Array.toList_map, Array.toList_range, hcs]
  rw [cellsL_eq]
  induction q with
  | zero => simp
  | succ q ih =>
    rw [List.replicate_succ', List.flatten_append, ← ih, Nat.succ_mul, List.range_add, List.map_append]
    congr 1
    simp only [List.map_map, List.flatten_cons, List.flatten_nil, List.append_nil]
    apply List.ext_getElem?
    intro j
    by_cases hj : j < (cellsL z).length
    · simp only [List.getElem?_map, List.getElem?_range hj, Option.map_some, Function.comp]
      rw [Nat.mul_comm, Nat.mul_add_mod, Nat.mod_eq_of_lt hj]
      simp [hj]
    · rw [List.getElem?_eq_none (by simp; omega), List.getElem?_eq_none (by omega)]
theorem run_appendZ {t t2 elem rty : TypeId} {ty' t2' te : Ty} {z : Value} {a0 : Option Addr} {kk cap mm : Nat} {q : IntKind} {cs : List Value} {A : HP} {w : World} (i : Nat)
    (ht : U.get t = some ty') (hu : ty'.und = .slice elem) (h2 : U.get t2 = some t2') (h2n : t2'.und = .int q) (he : U.get elem = some te) (hz : te.info.zero = some z) (hzs : (cellsL z).length = te.info.size) (hsz : 0 < te.info.size) (hw : Sat G w H)
    (hi : getL H i = some A) (hv : Vw A (.slice a0 kk cap) kk cs) (hl : cs.length = kk * te.info.size) (hgt : cap < kk + mm) (hm0 : 0 < mm)
    (hmax : kk + mm ≤ 9223372036854775807) (hmm : mm * te.info.bytes ≤ 140737488355328) (hbytes : (kk + mm) * te.info.bytes ≤ 140737488355328) :
    (Builtin.append_ #[t, t2] rty #[.slice a0 kk cap, .int .i64 (mm : Int)]).run P w = .ok (.slice (some ⟨w.heap.size, 0, none⟩) (kk + mm) (grownCap w (kk + mm) cap elem))
      (w.drew.alloc (cl (cs ++ (List.replicate mm (cellsL z)).flatten ++ (Builtin.zeroCells z.cells (grownCap w (kk + mm) cap elem - (kk + mm))).toList) elem)) := by
  have hzeros : ∀ {w : World}, (underlying t2).run P w = .ok t2'.und w := fun {w} => run_underlying h2 w
  have hnz : (t2'.und matches .int _) = true := by rw [h2n]
  have hgt' : ¬ kk + mm ≤ cap := by omega
  have hgs := growslice_fits (need := kk + mm) (old := cap) (bytes := te.info.bytes) (by omega) hbytes
  have hl1 := run_first (P := P) (G := G) (w := w.drew) hv (hw.draw _) hi hl
  have hnomax : ¬ ((9223372036854775807 : Int) < (kk : Int) + (mm : Int)) := by omega
  have hgs' : ¬ 281474976710656 < Builtin.nextslicecap (kk + mm) cap * te.info.bytes := by omega
  have hwr : IntKind.i64.wrap (mm : Int) = mm := wrap_in (by simp only [inK]; omega)
  have hneg : ¬ ((mm : Int) < 0) := by omega
  have hb2 : ¬ ((281474976710656 : Int) < (mm : Int) * (te.info.bytes : Int)) := by
    have : ((mm * te.info.bytes : Nat) : Int) ≤ 140737488355328 := by omega
    rw [Int.natCast_mul] at this; omega
  have hne : ¬ (mm * te.info.size = 0) := Nat.ne_of_gt (Nat.mul_pos hm0 hsz)
  have hzc := zeroCells_list z mm
  simp [Builtin.append_, run_underlying ht, hu, run_sizeOf he, hzeros, hnz, asInt, asIntOf, hwr, hneg, hb2, hgt', hnomax, hgs', Question.forced, run_typeInfo he, run_zeroValue he hz, newRow, hl1, grownCap, cl, hne, h2n]
  congr 2
  apply Array.ext'
  simp [hzc]
/-- append of so many zeros where there is no room: a new row, the old one stays. -/
theorem J_appendZ {x y : Operand} {t t2 elem : TypeId} {ty' t2' te : Ty} {z : Value} {a0 : Option Addr} {kk cap mm : Nat} {q : IntKind} {cs : List Value} {A : HP} (i : Nat) (hd : Nat.blt d n = true)
    (hx : ev L x = some (.slice a0 kk cap)) (hy : ev L y = some (.int .i64 (mm : Int))) (ht : U.get t = some ty') (hu : ty'.und = .slice elem) (h2 : U.get t2 = some t2') (h2n : t2'.und = .int q) (he : U.get elem = some te) (hz : te.info.zero = some z) (hzs : Nat.beq (cellsL z).length te.info.size = true) (hsz : Nat.blt 0 te.info.size = true)
    (hi : getL H i = some A) (hv : Vw A (.slice a0 kk cap) kk cs) (hl : cs.length = kk * te.info.size) (hgt : cap < kk + mm) (hm0 : 0 < mm)
    (hmax : kk + mm ≤ 9223372036854775807) (hmm : mm * te.info.bytes ≤ 140737488355328) (hbytes : (kk + mm) * te.info.bytes ≤ 140737488355328)
    (hS : ∀ v' w, Sat G w (slc elem te.info.size v' (kk + mm) (cs ++ (List.replicate mm (cellsL z)).flatten) :: H) → Sx rest S w)
    (h : ∀ v', J P f n R G S all rest k ((d, v') :: L) (slc elem te.info.size v' (kk + mm) (cs ++ (List.replicate mm (cellsL z)).flatten) :: H)) :
    J P f n R G S all (.cons false true ⟨some d, .call { callee := .builtin .append, args := #[x, y], argTypes := #[t, t2] }, ty, pos, af, gd⟩ rest) k L H := by
  refine J_act hd (fun u H1 => H1 = slc elem te.info.size u (kk + mm) (cs ++ (List.replicate mm (cellsL z)).flatten) :: H) (fun a w ha hw => ?_) ?_ ?_
  · have hr := run_appendZ (P := P) (rty := ty) i ht hu h2 h2n he hz (Nat.eq_of_beq_eq_true hzs) (by simpa [Nat.blt_eq] using hsz) hw hi hv hl hgt hm0 hmax hmm hbytes
    refine ⟨.slice (some ⟨w.heap.size, 0, none⟩) (kk + mm) (grownCap w (kk + mm) cap elem), w.drew.alloc (cl (cs ++ (List.replicate mm (cellsL z)).flatten ++ (Builtin.zeroCells z.cells (grownCap w (kk + mm) cap elem - (kk + mm))).toList) elem), _, ?_, rfl, ?_⟩
    · simp [execOp, resolve, invoke, builtin, ha.ev hx, ha.ev hy, hr]
    · have h5 := Sat.alloc (w := w.drew) (hw.draw _) (cl (cs ++ (List.replicate mm (cellsL z)).flatten ++ (Builtin.zeroCells z.cells (grownCap w (kk + mm) cap elem - (kk + mm))).toList) elem)
      refine h5.ent (Ent.fold (B := [_]) fun h hs => ⟨h, sub.refl h, ?_⟩)
      have hge := grownCap_ge w (kk + mm) cap elem
      have hzl : (List.replicate mm (cellsL z)).flatten.length = mm * te.info.size := by rw [flat_replicate, Nat.eq_of_beq_eq_true hzs]
      refine ⟨by simp only [List.length_append, hl, hzl, Nat.add_mul], .inr ⟨w.heap.size, 0, _, [], _, rfl, rfl, hge, ?_, by simpa using Sep_one hs⟩⟩
      have h7 : (Builtin.zeroCells z.cells (grownCap w (kk + mm) cap elem - (kk + mm))).size = (grownCap w (kk + mm) cap elem - (kk + mm)) * te.info.size := by rw [size_zeroCells, cellsL_eq]; simp [Nat.eq_of_beq_eq_true hzs]
      rw [List.length_append, hl, hzl, Array.length_toList, h7, ← Nat.add_mul, ← Nat.add_mul]
      exact Nat.le_of_eq (by congr 1; omega)
  · rintro u H1 w rfl hw; exact hS u w hw
  · rintro u H1 rfl; exact h u
theorem J_slice3 {t elem : TypeId} {ty' te : Ty} {x lo hi mx : Operand} {a0 : Option Addr} {len cap : Nat} {p q r : Int} {j1 j2 j3 : IntKind} (hd : Nat.blt d n = true)
    (ht : U.get t = some ty') (hu : ty'.und = .slice elem) (he : U.get elem = some te) (hx : ev L x = some (.slice a0 len cap)) (hlo : ev L lo = some (.int j1 p)) (hhi : ev L hi = some (.int j2 q)) (hmx : ev L mx = some (.int j3 r)) (h0 : 0 ≤ p) (hpq : p ≤ q) (hqr : q ≤ r) (hrc : r ≤ (cap : Int))
    (h : J P f n R G S all rest k ((d, .slice (sliceAt a0 r.toNat p.toNat te.info.size) (q.toNat - p.toNat) (r.toNat - p.toNat)) :: L) H) :
    J P f n R G S all (.cons m true ⟨some d, .slice t x (some lo) (some hi) (some mx), ty, pos, af, gd⟩ rest) k L H := by
  refine J_pure hd (fun a ha w => ?_) h
  have hb : (Instr.sliceBounds true len cap (some (a.eval lo)) (some (a.eval hi)) (some (a.eval mx))).run P w = .ok (p.toNat, q.toNat, r.toNat) w := by
    unfold Instr.sliceBounds
    have e1 : 0 ≤ r ∧ r ≤ (cap : Int) := ⟨by omega, hrc⟩
    have e2 : 0 ≤ q ∧ q ≤ ((r.toNat : Nat) : Int) := ⟨by omega, by omega⟩
    have e3 : 0 ≤ p ∧ p ≤ ((q.toNat : Nat) : Int) := ⟨h0, by omega⟩
    have e4 : q ≤ max r 0 := by omega
    have e5 : p ≤ max q 0 := by omega
    have e6 : 0 ≤ q := by omega
    simp [ha.ev hlo, ha.ev hhi, ha.ev hmx, Instr.sliceBound, asIntOf, e1, e2, e3, e4, e5, e6]
  simp only [execOp, ha.ev hx, Instr.sliceAt, Sem.run_bind, run_underlying ht, Result.andThen_ok, hu, Instr.slice, Option.map_some, hb, run_sizeOf he, Sem.run_pure, sliceAt]
  by_cases hc : p.toNat = r.toNat
  · simp [hc]
  · simp only [if_neg (Ne.symm hc), if_neg hc]
theorem J_overlaps {g : FuncId} {fn : Func} {args : Array Operand} {tys : Array TypeId} {tS elem : TypeId} {ty' te : Ty} {b1 o1 n1 c1 b2 o2 n2 c2 : Nat} {l1 l2 : List Value} {e1 e2 : TypeId} {Fr : List HP} {rs : Array TypeId} (is : List Nat) (hd : Nat.blt d n = true)
    (hf : P.funcs[g]? = some fn) (hb : fn.body = none) (hn : (fn.name == "runtime.NumGoroutine") = false) (hnx : (Extern.findNext fn).isNone = true) (he : Extern.find fn = some (Extern.SlicesOverlaps.overlaps #[tS, tS] rs))
    (ht : U.get tS = some ty') (hu : ty'.und = .slice elem) (hel : U.get elem = some te)
    (hargs : evs L args.toList [] = .mk [.slice (some ⟨b1, o1, none⟩) n1 c1, .slice (some ⟨b2, o2, none⟩) n2 c2]) (hi : pickE is [] H [] = .mk [pts b1 (cl l1 e1), pts b2 (cl l2 e2)] Fr)
    (h : J P f n R G S all rest k ((d, .bool false) :: L) H) :
    J P f n R G S all (.cons false true ⟨some d, .call { callee := .value (.func g), args := args, argTypes := tys }, ty, pos, af, gd⟩ rest) k L H := by
  refine J_read hd (fun a w ha hw => ?_) h
  have hw2 := hw.ent (Ent.pick is hi)
  have hne := Sat.ne hw2
  have hb1 : w.heap[b1]? = some (cl l1 e1) := hw2.getP (i := 0) rfl
  have hb2 : w.heap[b2]? = some (cl l2 e2) := hw2.getP (i := 1) rfl
  have hbn : (b1 == b2) = false := by simpa using hne
  have f1 : ∀ o, w.frozen? ⟨b1, o, none⟩ = false := fun o => frozen_of_block hb1
  have f2 : ∀ o, w.frozen? ⟨b2, o, none⟩ = false := fun o => frozen_of_block hb2
  have s1 : w.shape? b1 = some (e1, l1.length) := by simp [World.shape?, hb1, cl]
  have s2 : w.shape? b2 = some (e2, l2.length) := by simp [World.shape?, hb2, cl]
  simp only [execOp, resolve, Sem.run_bind, Act.eval, Deferred.ofValue, Sem.run_pure, Result.andThen_ok, invoke]
  rw [show (args.map fun x => a.eval x) = args.map a.eval from rfl] at *
  have hav := evs_arr ha _ _ hargs
  rw [show Array.map a.eval args = #[.slice (some ⟨b1, o1, none⟩) n1 c1, .slice (some ⟨b2, o2, none⟩) n2 c2] from hav]
  simp only [Array.empty_append, Array.append_empty]
  rw [run_extern hf hb hn hnx he]
  have hov : (Extern.SlicesOverlaps.overlaps #[tS, tS] rs #[.slice (some ⟨b1, o1, none⟩) n1 c1, .slice (some ⟨b2, o2, none⟩) n2 c2]).run P w = .ok (.bool false) w := by
    change Sem.run P (α := Value) (do
      let some t := (#[tS, tS] : Array TypeId)[0]? | stuck "slices.overlaps: no parameter types"
      let .slice elem ← underlying t | stuck "slices.overlaps: slice type expected"
      let size ← sizeOf elem
      match (some (⟨b1, o1, none⟩ : Addr) : Option Addr), (some (⟨b2, o2, none⟩ : Addr) : Option Addr) with
      | some a, some b =>
        if n1 = 0 ∨ n2 = 0 ∨ size = 0 then pure (Value.bool false)
        else if a.block != b.block && (← frozen a) && (← frozen b) then unsupported .addressObserved
        else do
          if a.block != b.block then do
            noView a; noView b
            if ← mayBeOne a b then return Value.bool ((← choose (.extern "sameAddr.stringBytes" 2)) == 1)
          pure (Value.bool (a.block == b.block && a.off < b.off + n2 * size && b.off < a.off + n1 * size))
      | _, _ => pure (Value.bool false)) w = _
    by_cases h0 : n1 = 0 ∨ n2 = 0 ∨ te.info.size = 0
    · simp [run_underlying ht, hu, run_sizeOf hel, h0]
    · simp [run_underlying ht, hu, run_sizeOf hel, h0, hbn, frozen, noView, viewAt, mayBeOne, stringish, shape, Sem.run, s1, s2, f1, f2, hne]
  rw [hov]
  rfl
theorem J_cap {x : Operand} {t : TypeId} {ty' : Ty} {e : TypeId} {a0 : Option Addr} {len cap : Nat} (hd : Nat.blt d n = true) (hx : ev L x = some (.slice a0 len cap)) (ht : U.get t = some ty') (hu : ty'.und = .slice e)
    (h : J P f n R G S all rest k ((d, .int .i64 (cap : Int)) :: L) H) : J P f n R G S all (.cons m true ⟨some d, .call { callee := .builtin .cap, args := #[x], argTypes := #[t] }, ty, pos, af, gd⟩ rest) k L H := by
  refine J_pure hd (fun a ha w => ?_) h
  simp [execOp, resolve, invoke, builtin, ha.ev hx, Builtin.cap_, run_underlying ht, hu, goInt]
end
end Go.SL

/- Engine, part O: copy of a part; parts of a view. Nothing here names a program. -/
set_option linter.unusedVariables false
set_option linter.unusedSimpArgs false
namespace Go.SL
theorem Vw.front {A : HP} {b o n cap : Nat} {cs : List Value} (h : Vw A (.slice (Option.some ⟨b, o, none⟩) n cap) n cs) (i cap' q : Nat) : Vw A (.slice (Option.some ⟨b, o, none⟩) i cap') i (cs.take q) := by
  obtain ⟨a, cap2, hv, h0 | ⟨b', o', ha, hc⟩⟩ := h
  · subst h0; exact ⟨_, cap', rfl, .inl (by simp)⟩
  · simp only [Value.slice.injEq, true_and] at hv
    obtain ⟨rfl, _⟩ := hv
    simp only [Option.some.injEq, Addr.mk.injEq, and_true] at ha
    obtain ⟨rfl, rfl⟩ := ha
    refine ⟨_, cap', rfl, .inr ⟨b, o, rfl, fun h hA j c hj => ?_⟩⟩
    rw [List.getElem?_take] at hj
    split at hj
    · exact hc h hA j c hj
    · cases hj
theorem Vw.back {A : HP} {b o n cap : Nat} {cs : List Value} (h : Vw A (.slice (Option.some ⟨b, o, none⟩) n cap) n cs) (i cap' q : Nat) : Vw A (.slice (Option.some ⟨b, o + q, none⟩) i cap') i (cs.drop q) := by
  obtain ⟨a, cap2, hv, h0 | ⟨b', o', ha, hc⟩⟩ := h
  · subst h0; exact ⟨_, cap', rfl, .inl (by simp)⟩
  · simp only [Value.slice.injEq, true_and] at hv
    obtain ⟨rfl, _⟩ := hv
    simp only [Option.some.injEq, Addr.mk.injEq, and_true] at ha
    obtain ⟨rfl, rfl⟩ := ha
    refine ⟨_, cap', rfl, .inr ⟨b, o + q, rfl, fun h hA j c hj => ?_⟩⟩
    rw [List.getElem?_drop] at hj
    rw [Nat.add_assoc]
    exact hc h hA (q + j) c hj
theorem sliceAt_some (b o cap p sz : Nat) (h : p ≠ cap) : sliceAt (some ⟨b, o, none⟩) cap p sz = some ⟨b, o + p * sz, none⟩ := by
  unfold sliceAt; rw [if_neg h, Option.map_some, Addr.add_eq]
section
variable {P : Program} {U : Tr} [hU : TabOk P U] {f : FuncId} {n : Nat} {R : Ending → World → Prop} {G : Glob} {k : List Item} {L : Lst} {H H' : List HP} {S : World → Prop} {all : Array Oper} {rest : Pl}
  {ty : TypeId} {pos : String} {af : Array Edge} {gd : Option (Nat × Bool)} {m : Bool} {d : Tmp}
theorem K_slcF {e : TypeId} {sz nn : Nat} {v : Value} {cs : List Value} (i : Nat) (hi : getL H i = some (slc e sz v nn cs)) (h0 : 0 < nn)
    (h : ∀ b o c, v = .slice (some ⟨b, o, none⟩) nn c → nn ≤ c → cs.length = nn * sz → Vw (slc e sz v nn cs) v nn cs → K P f n R G k L H) : K P f n R G k L H :=
  K_sat fun ⟨w, hw⟩ => by
    obtain ⟨h1, _, hA⟩ := hw.getA hi
    have hv := Vw.of_slc e sz v nn cs ⟨h1, hA⟩
    obtain ⟨hl, ⟨a, rfl, rfl, _⟩ | ⟨b, o, cap, pre, junk, rfl, _, hc, _⟩⟩ := hA
    · omega
    · exact h _ _ _ rfl hc hl hv
theorem slc_openN {e : TypeId} {b o c nn sz : Nat} {cs : List Value} (h0 : 0 < nn) : ∀ h, slc e sz (.slice (some ⟨b, o, none⟩) nn c) nn cs h → ∃ x : List Value × List Value, (x.1.length = o ∧ nn ≤ c ∧ c * sz ≤ cs.length + x.2.length ∧ cs.length = nn * sz) ∧ Sep [pts b (cl (x.1 ++ cs ++ x.2) e)] h := by
  rintro h ⟨hl, ⟨a, hv, rfl, he⟩ | ⟨b', o', cap, pre, junk, hv, hp, hn, hc, hpt⟩⟩
  · omega
  · simp only [Value.slice.injEq, Option.some.injEq, Addr.mk.injEq, and_true, true_and] at hv
    obtain ⟨⟨rfl, rfl⟩, rfl⟩ := hv
    exact ⟨(pre, junk), ⟨hp, hn, hc, hl⟩, Sep_one' hpt⟩
theorem sliceAt_zero (b o cap sz : Nat) : sliceAt (some ⟨b, o, none⟩) cap 0 sz = some ⟨b, o, none⟩ := by
  unfold sliceAt; split
  · rfl
  · rw [Option.map_some, Addr.add_eq]; simp
theorem ins_a {pre c1 d c3 junk : List Value} {q s r : Nat} (h : pre.length + c1.length = q) (hd : d.length = s) (hr : r = q + s + (d ++ c3).length) (hj : s ≤ junk.length) :
    (pre ++ (c1 ++ (d ++ c3)) ++ junk).take (q + s) ++ (d ++ c3) ++ (pre ++ (c1 ++ (d ++ c3)) ++ junk).drop r = pre ++ c1 ++ d ++ (d ++ c3) ++ junk.drop s := by
  have e1 : pre ++ (c1 ++ (d ++ c3)) ++ junk = (pre ++ c1 ++ d) ++ (c3 ++ junk) := by simp only [List.append_assoc]
  have e2 : pre ++ (c1 ++ (d ++ c3)) ++ junk = (pre ++ (c1 ++ (d ++ c3)) ++ junk.take s) ++ junk.drop s := by rw [List.append_assoc (pre ++ (c1 ++ (d ++ c3))) (junk.take s) (junk.drop s), List.take_append_drop]
  have h1 : (pre ++ (c1 ++ (d ++ c3)) ++ junk).take (q + s) = pre ++ c1 ++ d := by rw [e1]; exact List.take_left' (by simp only [List.length_append]; omega)
  have h2 : (pre ++ (c1 ++ (d ++ c3)) ++ junk).drop r = junk.drop s := by
    rw [e2]; exact List.drop_left' (by simp only [List.length_append, List.length_take] at hr ⊢; omega)
  rw [h1, h2]
theorem ins_b {pre c1 d rest f : List Value} {q s r : Nat} (h : pre.length + c1.length = q) (hd : d.length = s) (hr : r = q + s) :
    (pre ++ c1 ++ d ++ rest).take q ++ f ++ (pre ++ c1 ++ d ++ rest).drop r = pre ++ (c1 ++ f) ++ rest := by
  have h1 : (pre ++ c1 ++ d ++ rest).take q = pre ++ c1 := by rw [List.append_assoc]; exact List.take_left' (by simp only [List.length_append]; omega)
  have h2 : (pre ++ c1 ++ d ++ rest).drop r = rest := List.drop_left' (by simp only [List.length_append]; omega)
  rw [h1, h2]; simp only [List.append_assoc]
theorem J_copyT {x y : Operand} {t t2 elem : TypeId} {ty' te : Ty} {v2 : Value} {b o dl dc mm : Nat} {l src l' : List Value} {e : TypeId} {A : HP} (i j : Nat) (hd : Nat.blt d n = true)
    (hx : ev L x = some (.slice (some ⟨b, o, none⟩) dl dc)) (hy : ev L y = some v2) (ht : U.get t = some ty') (hu : ty'.und = .slice elem) (he : U.get elem = some te)
    (hi : getL H i = some (pts b (cl l e))) (hj : getL H j = some A) (hv2 : Vw A v2 mm src) (hl2 : src.length = mm * te.info.size) (hone : ∀ u ∈ src.take (min mm dl * te.info.size), u.oneCell' = true)
    (hfit : o + (min mm dl) * te.info.size ≤ l.length) (hl' : l' = l.take o ++ src.take (min mm dl * te.info.size) ++ l.drop (o + min mm dl * te.info.size)) (hp : putP i (pts b (cl l' e)) H [] = .mk H')
    (hS : ∀ w, Sat G w H' → Sx rest S w)
    (h : J P f n R G S all rest k ((d, .int .i64 (min mm dl : Nat)) :: L) H') :
    J P f n R G S all (.cons false true ⟨some d, .call { callee := .builtin .copy, args := #[x, y], argTypes := #[t, t2] }, ty, pos, af, gd⟩ rest) k L H := by
  refine J_act hd (fun u H1 => u = .int .i64 (min mm dl : Nat) ∧ H1 = H') (fun a w ha hw => ?_) ?_ ?_
  · have hf := run_firstN (P := P) (q := min mm dl) hv2 hw hj hl2 (Nat.min_le_left _ _)
    obtain ⟨a2, c2, hv', _⟩ := hv2
    subst hv'
    have h3 : (src.take (min mm dl * te.info.size)).length = min mm dl * te.info.size := by rw [List.length_take, hl2]; exact Nat.min_eq_left (Nat.mul_le_mul_right _ (Nat.min_le_left _ _))
    have hst := run_storeCells (P := P) (src.take (min mm dl * te.info.size)) 0 o l w (hw.getP hi) (by rw [h3]; simpa using hfit) hone
    simp only [Nat.add_zero, h3, ← hl'] at hst
    refine ⟨_, _, H', ?_, ⟨rfl, rfl⟩, hw.put hi hp⟩
    simp only [execOp, resolve, invoke, builtin, Sem.run_bind, Sem.run_pure, Result.andThen_ok, List.map_toArray, List.map_cons, List.map_nil, ha.ev hx, ha.ev hy, Builtin.copy_, List.getElem?_toArray, List.getElem?_cons_zero, List.getElem?_cons_succ,
      run_underlying ht, hu, Builtin.lenOf, run_sizeOf he]
    rw [show Nat.min mm dl = min mm dl from rfl]
    simp only [hf, Result.andThen_ok, hst, goInt]
  · rintro u H1 w ⟨rfl, rfl⟩ hw; exact hS w hw
  · rintro u H1 ⟨rfl, rfl⟩; exact h

end
end Go.SL

/- Engine, part P: one cell of a row; stores turned round and cut; a slice cut short. Nothing here names a program. -/
set_option linter.unusedVariables false
set_option linter.unusedSimpArgs false
namespace Go.SL
/-- One cell of a row, whatever the others hold. -/
def cellP (b off : Nat) (v : Value) : HP := fun h => hcell h b off = some v
theorem cellP_of {b off : Nat} {v : Value} {l : List Value} {e : TypeId} (hv : l[off]? = some v) (H : List HP) : Ent (pts b (cl l e) :: H) (cellP b off v :: H) :=
  Ent.head (B := [cellP b off v]) fun h hs => ⟨h, sub.refl h, Sep_one' (by
    have h1 := (Vw.pts (b := b) (l := l) (e := e) (o := 0) (n := l.length) (cap := l.length) (cs := l) (by simp)).cell hv h hs
    rw [Nat.zero_add] at h1; exact h1)⟩
theorem cellP_view (b off : Nat) (v : Value) : Vw (cellP b off v) (.slice (some ⟨b, off, none⟩) 1 1) 1 [v] :=
  ⟨_, _, rfl, .inr ⟨b, off, rfl, fun h hA j c hj => by
    cases j with
    | zero => simp at hj; subst hj; exact hA
    | succ j => simp at hj⟩⟩
theorem stock_perm {α : Type} (g : α → HP) {l l' : List α} (hp : l.Perm l') (H : List HP) : Ent (stock g l :: H) (stock g l' :: H) := fun h hs => ⟨h, sub.refl h, star_mono (fun h hs => Sep_perm (hp.map g) h hs) (fun _ h => h) hs⟩
theorem stock_take {α : Type} (g : α → HP) (l : List α) (m : Nat) (H : List HP) : Ent (stock g l :: H) (stock g (l.take m) :: H) := by
  refine Ent.head (B := [stock g (l.take m)]) fun h hs => ?_
  have h1 : Sep ((l.take m).map g ++ (l.drop m).map g) h := by rw [← List.map_append, List.take_append_drop]; exact hs
  obtain ⟨h', hs', hS⟩ := star_left (Sep_append h1)
  exact ⟨h', hs', Sep_one' hS⟩
theorem slc_cut {e : TypeId} {sz b o c n m : Nat} {cs : List Value} (hm : m ≤ n) (h0 : 0 < n) (H : List HP) : Ent (slc e sz (.slice (some ⟨b, o, none⟩) n c) n cs :: H) (slc e sz (.slice (some ⟨b, o, none⟩) m c) m (cs.take (m * sz)) :: H) := by
  refine Ent.head (B := [slc e sz (.slice (some ⟨b, o, none⟩) m c) m (cs.take (m * sz))]) fun h hs => ?_
  obtain ⟨⟨pre, junk⟩, ⟨h1, h2, h3, h4⟩, h5⟩ := slc_openN h0 h hs
  simp only at h1 h2 h3 h4 h5
  have hmz : m * sz ≤ n * sz := Nat.mul_le_mul_right sz hm
  have hl : (cs.take (m * sz)).length = m * sz := by rw [List.length_take, h4]; omega
  refine ⟨h, sub.refl h, Sep_one' ⟨hl, .inr ⟨b, o, c, pre, cs.drop (m * sz) ++ junk, rfl, h1, by omega, ?_, ?_⟩⟩⟩
  · rw [hl, List.length_append, List.length_drop, h4]; rw [h4] at h3; omega
  · have := Sep_one h5
    rw [show pre ++ cs.take (m * sz) ++ (cs.drop (m * sz) ++ junk) = pre ++ cs ++ junk from by rw [List.append_assoc, ← List.append_assoc (cs.take _), List.take_append_drop, List.append_assoc]]
    exact this
theorem stockV_mem {α : Type} {g : α → HP} {l : List α} {x : α} (hx : x ∈ l) {h : Hp} (hs : stock g l h) : ∃ h', sub h' h ∧ g x h' := stock_mem hx hs
theorem K_slcLe {P : Program} {f : FuncId} {n : Nat} {R : Ending → World → Prop} {G : Glob} {k : List Item} {L : Lst} {H : List HP} {e : TypeId} {sz nn c : Nat} {a : Option Addr} {cs : List Value} (i : Nat) (hi : getL H i = some (slc e sz (.slice a nn c) nn cs))
    (h : nn ≤ c → cs.length = nn * sz → Vw (slc e sz (.slice a nn c) nn cs) (.slice a nn c) nn cs → K P f n R G k L H) : K P f n R G k L H :=
  K_sat fun ⟨w, hw⟩ => by
    obtain ⟨h1, _, hA⟩ := hw.getA hi
    have hv := Vw.of_slc e sz _ nn cs ⟨h1, hA⟩
    obtain ⟨hl, ⟨a, hv1, rfl, _⟩ | ⟨b, o, cap, pre, junk, hv1, _, hc, _⟩⟩ := hA
    · simp only [Value.slice.injEq] at hv1; exact h (by omega) hl hv
    · simp only [Value.slice.injEq] at hv1; exact h (by omega) hl hv
theorem Vw.cut0 {A : HP} {a : Option Addr} {n cap s : Nat} {cs : List Value} (h : Vw A (.slice a n cap) n cs) (k : Nat) : Vw A (.slice (sliceAt a cap 0 s) k cap) k (cs.take (k * s)) := by
  have h' := h
  obtain ⟨a', cap2, hv, h0 | ⟨b', o', ha, hc⟩⟩ := h
  · subst h0; exact ⟨_, cap, rfl, .inl (by simp)⟩
  · simp only [Value.slice.injEq, true_and] at hv
    obtain ⟨rfl, _⟩ := hv
    subst ha
    rw [sliceAt_zero]
    exact h'.front k cap (k * s)
theorem Vw.cutk {A : HP} {a : Option Addr} {n cap s : Nat} {cs : List Value} (h : Vw A (.slice a n cap) n cs) (hl : cs.length = n * s) (hn : n ≤ cap) (k : Nat) (hk : k ≤ n) : Vw A (.slice (sliceAt a cap k s) (n - k) (cap - k)) (n - k) (cs.drop (k * s)) := by
  have h' := h
  obtain ⟨a', cap2, hv, h0 | ⟨b', o', ha, hc⟩⟩ := h
  · subst h0; exact ⟨_, _, rfl, .inl (by simp)⟩
  · simp only [Value.slice.injEq, true_and] at hv
    obtain ⟨rfl, _⟩ := hv
    subst ha
    by_cases hkc : k = cap
    · have : cs.drop (k * s) = [] := List.eq_nil_of_length_eq_zero (by rw [List.length_drop, hl, hkc, show n = cap from by omega]; omega)
      rw [this]; exact ⟨_, _, rfl, .inl rfl⟩
    · rw [sliceAt_some _ _ _ _ _ hkc]
      exact h'.back (n - k) (cap - k) (k * s)
theorem stock_split {α : Type} (g : α → HP) (l : List α) (m : Nat) (H : List HP) : Ent (stock g l :: H) (stock g (l.take m) :: stock g (l.drop m) :: H) := fun h hs => by
  refine ⟨h, sub.refl h, star_assoc' (star_mono (fun h hs => ?_) (fun _ h => h) hs)⟩
  have h1 : Sep ((l.take m).map g ++ (l.drop m).map g) h := by rw [← List.map_append, List.take_append_drop]; exact hs
  exact Sep_append h1
theorem take_first {α : Type} {P : α → Bool} (l : List α) (i : Nat) (h1 : ∀ y ∈ l.take i, P y = true) (h2 : l.length ≤ i ∨ ∃ x, l[i]? = Option.some x ∧ P x = false) : l.take i = l.takeWhile P ∧ l.drop i = l.dropWhile P := by
  induction l generalizing i with
  | nil => simp
  | cons y l ih =>
    cases i with
    | zero =>
      rcases h2 with h2 | ⟨x, hx, hp⟩
      · simp at h2
      · simp at hx; subst hx; simp [List.takeWhile_cons, List.dropWhile_cons, hp]
    | succ i =>
      have hy : P y = true := h1 y (by simp)
      have := ih i (fun z hz => h1 z (by simp [hz])) (by simpa using h2)
      simp [List.takeWhile_cons, List.dropWhile_cons, hy, this.1, this.2]
theorem takeWhile_all {α : Type} {P : α → Bool} : ∀ (l : List α), ∀ x ∈ l.takeWhile P, P x = true := by
  intro l
  induction l with
  | nil => intro x hx; simp at hx
  | cons y l ih =>
    intro x hx
    rw [List.takeWhile_cons] at hx
    split at hx
    · rename_i h
      rcases List.mem_cons.1 hx with rfl | hx
      · exact h
      · exact ih x hx
    · cases hx
end Go.SL

/- Engine, part Q: a store into a field of an element of a slice. Nothing here names a program. -/
set_option linter.unusedVariables false
set_option linter.unusedSimpArgs false
namespace Go.SL
section
variable {P : Program} {U : Tr} [hU : TabOk P U] {f : FuncId} {n : Nat} {R : Ending → World → Prop} {G : Glob} {k : List Item} {L : Lst} {H H' : List HP} {S : World → Prop} {all : Array Oper} {rest : Pl}
  {ty : TypeId} {pos : String} {af : Array Edge} {gd : Option (Nat × Bool)} {m : Bool} {d : Tmp}
theorem J_storeSlcN {t : TypeId} {x y : Operand} {b o q off c nn sz : Nat} {ty' : Ty} {u : Value} {e : TypeId} {cs : List Value} (i : Nat) (hS : ∀ w, Sat G w H' → Sx rest S w)
    (hx : ev L x = some (.pointer (some ⟨b, off, none⟩))) (hoff : off = o + q) (hy : ev L y = some u) (ht : U.get t = some ty') (hsz : Nat.beq ty'.info.size 1 = true) (hc : cellsL u = [u]) (hone : allOne [u] = true)
    (hi : getL H i = some (slc e sz (.slice (some ⟨b, o, none⟩) nn c) nn cs)) (h0 : 0 < nn) (hq : q < nn * sz) (hp : putP i (slc e sz (.slice (some ⟨b, o, none⟩) nn c) nn (cs.set q u)) H [] = .mk H')
    (h : J P f n R G S all rest k L H') : J P f n R G S all (.cons false true ⟨none, .store t x y, ty, pos, af, gd⟩ rest) k L H := by
  subst hoff
  refine J_ent (Ent.perm (perm_of_get (by rw [← getL_eq]; exact hi))) ?_
  refine J_open (B := fun x : List Value × List Value => [pts b (cl (x.1 ++ cs ++ x.2) e)]) (fun h hs => slc_openN h0 h hs) ?_
  rintro ⟨pre, junk⟩ ⟨h1, h2, h3, h4⟩
  simp only at h1 h2 h3 h4
  have hset : (pre ++ cs ++ junk).set (o + q) u = pre ++ cs.set q u ++ junk := by
    rw [List.append_assoc, List.set_append_right _ _ (by omega), show o + q - pre.length = q by omega, List.set_append_left _ _ (by omega), List.append_assoc]
  have hE : Ent (pts b (cl (pre ++ cs.set q u ++ junk) e) :: H.eraseIdx i) H' := by
    have h5 := putP_eq i _ _ H [] H' hp hi
    exact (slc_closeN h1 h2 (by rw [List.length_set]; exact h3) (by rw [List.length_set]; exact h4) _).trans (Ent.perm (by simpa using h5.symm))
  refine J_store (U := U) (l' := pre ++ cs.set q u ++ junk) 0 (fun w hw => hS w (hw.ent hE)) hx hy ht (by rw [hc, Nat.eq_of_beq_eq_true hsz]; rfl) (by rw [hc]; rfl) (by rw [hc]; exact hone) rfl ?_ rfl (J_ent hE h)
  rw [hc, repl_go _ _ _ _ (by simp; omega), ← hset]
  rfl
end
end Go.SL

/- Engine, part R: string(b) where b stands through a region. Nothing here names a program. -/
set_option linter.unusedVariables false
set_option linter.unusedSimpArgs false
namespace Go.SL
section
variable {P : Program} {U : Tr} [hU : TabOk P U] {f : FuncId} {n : Nat} {R : Ending → World → Prop} {G : Glob} {k : List Item} {L : Lst} {H H' : List HP} {S : World → Prop} {all : Array Oper} {rest : Pl}
  {ty : TypeId} {pos : String} {af : Array Edge} {gd : Option (Nat × Bool)} {m : Bool} {d : Tmp}
theorem J_toStrS {Hs : List HP} {src dst e : TypeId} {ts td te : Ty} {x : Operand} {v : Value} {A : HP} {bs : List UInt8} (i : Nat) (hd : Nat.blt d n = true)
    (hx : ev L x = some v) (hs : U.get src = some ts) (hsu : ts.und = .slice e) (he : U.get e = some te) (heu : te.und = .int .u8) (hdt : U.get dst = some td) (hdu : td.und = .string) (hi : getL Hs i = some A) (hv : Vw A v bs.length (bV bs))
    (h : J P f n R G (fun w => Sat G w Hs) all rest k ((d, .string (strOf bs)) :: L) H) : J P f n R G (fun w => Sat G w Hs) all (.cons true true ⟨some d, .convert src dst x, ty, pos, af, gd⟩ rest) k L H := by
  refine J_readS hd (fun a w ha hw => ?_) h
  have hw : Sat G w Hs := hw
  obtain ⟨a0, cap, rfl, h0 | ⟨b, o, rfl, hc⟩⟩ := hv.cells hw hi
  · have hb : bs = [] := by simpa [bV] using h0
    subst hb
    cases a0 with
    | none =>
      simp only [execOp, ha.ev hx, Sem.run_bind]
      rw [run_convert_bytes_string w src dst e _ _ _ (by rw [und_of (P := P) hs, hsu]) (by rw [und_of (P := P) he, heu]) (by rw [und_of (P := P) hdt, hdu])]
      simp [Conv.bytesToString, strOf]
      rfl
    | some a1 =>
      simp only [execOp, ha.ev hx, Sem.run_bind]
      rw [run_convert_bytes_string w src dst e _ _ _ (by rw [und_of (P := P) hs, hsu]) (by rw [und_of (P := P) he, heu]) (by rw [und_of (P := P) hdt, hdu])]
      rw [run_bytesToString w a1 _ _ [] (by simp [loadCells, loadCellsFrom])]
      simp [strOf]
      rfl
  · have h1 := run_loadCells_list (P := P) w ⟨b, o, none⟩ (bV bs) (fun j c hj => by rw [Addr.add_eq]; exact hc j c hj)
    rw [bV_length] at h1
    simp only [execOp, ha.ev hx, Sem.run_bind]
    rw [run_convert_bytes_string w src dst e _ _ _ (by rw [und_of (P := P) hs, hsu]) (by rw [und_of (P := P) he, heu]) (by rw [und_of (P := P) hdt, hdu])]
    rw [run_bytesToString w _ _ _ (bs.map fun x => (x.toNat : Int)) (by rw [h1]; simp [bV, u8]), foldl_push]
    simp [strOf]
end
end Go.SL

/- The table of types of this seat's translation, as a tree (written by program: mktab.py), and that the program's own table says the same. -/
namespace Go.Proofs.Ythcjmhlmoamjpaa
open Go.SL
theorem tab1 : Try.prog.underlying 1 = some Try.t1.desc ∧ Try.prog.info? 1 = some Try.t1 := ⟨by kernel_rfl, by kernel_rfl⟩
theorem tab2 : Try.prog.underlying 2 = some Try.t2.desc ∧ Try.prog.info? 2 = some Try.t2 := ⟨by kernel_rfl, by kernel_rfl⟩
theorem tab3 : Try.prog.underlying 3 = some Try.t3.desc ∧ Try.prog.info? 3 = some Try.t3 := ⟨by kernel_rfl, by kernel_rfl⟩
theorem tab4 : Try.prog.underlying 4 = some Try.t4.desc ∧ Try.prog.info? 4 = some Try.t4 := ⟨by kernel_rfl, by kernel_rfl⟩
theorem tab5 : Try.prog.underlying 5 = some Try.t5.desc ∧ Try.prog.info? 5 = some Try.t5 := ⟨by kernel_rfl, by kernel_rfl⟩
theorem tab6 : Try.prog.underlying 6 = some Try.t5.desc ∧ Try.prog.info? 6 = some Try.t6 := ⟨by kernel_rfl, by kernel_rfl⟩
theorem tab7 : Try.prog.underlying 7 = some Try.t7.desc ∧ Try.prog.info? 7 = some Try.t7 := ⟨by kernel_rfl, by kernel_rfl⟩
theorem tab8 : Try.prog.underlying 8 = some Try.t7.desc ∧ Try.prog.info? 8 = some Try.t8 := ⟨by kernel_rfl, by kernel_rfl⟩
theorem tab9 : Try.prog.underlying 9 = some Try.t9.desc ∧ Try.prog.info? 9 = some Try.t9 := ⟨by kernel_rfl, by kernel_rfl⟩
theorem tab10 : Try.prog.underlying 10 = some Try.t9.desc ∧ Try.prog.info? 10 = some Try.t10 := ⟨by kernel_rfl, by kernel_rfl⟩
theorem tab11 : Try.prog.underlying 11 = some Try.t9.desc ∧ Try.prog.info? 11 = some Try.t11 := ⟨by kernel_rfl, by kernel_rfl⟩
theorem tab12 : Try.prog.underlying 12 = some Try.t12.desc ∧ Try.prog.info? 12 = some Try.t12 := ⟨by kernel_rfl, by kernel_rfl⟩
theorem tab13 : Try.prog.underlying 13 = some Try.t13.desc ∧ Try.prog.info? 13 = some Try.t13 := ⟨by kernel_rfl, by kernel_rfl⟩
theorem tab14 : Try.prog.underlying 14 = some Try.t13.desc ∧ Try.prog.info? 14 = some Try.t14 := ⟨by kernel_rfl, by kernel_rfl⟩
theorem tab15 : Try.prog.underlying 15 = some Try.t15.desc ∧ Try.prog.info? 15 = some Try.t15 := ⟨by kernel_rfl, by kernel_rfl⟩
theorem tab16 : Try.prog.underlying 16 = some Try.t16.desc ∧ Try.prog.info? 16 = some Try.t16 := ⟨by kernel_rfl, by kernel_rfl⟩
theorem tab17 : Try.prog.underlying 17 = some Try.t17.desc ∧ Try.prog.info? 17 = some Try.t17 := ⟨by kernel_rfl, by kernel_rfl⟩
theorem tab18 : Try.prog.underlying 18 = some Try.t18.desc ∧ Try.prog.info? 18 = some Try.t18 := ⟨by kernel_rfl, by kernel_rfl⟩
theorem tab19 : Try.prog.underlying 19 = some Try.t18.desc ∧ Try.prog.info? 19 = some Try.t19 := ⟨by kernel_rfl, by kernel_rfl⟩
theorem tab20 : Try.prog.underlying 20 = some Try.t20.desc ∧ Try.prog.info? 20 = some Try.t20 := ⟨by kernel_rfl, by kernel_rfl⟩
theorem tab21 : Try.prog.underlying 21 = some Try.t21.desc ∧ Try.prog.info? 21 = some Try.t21 := ⟨by kernel_rfl, by kernel_rfl⟩
theorem tab22 : Try.prog.underlying 22 = some Try.t22.desc ∧ Try.prog.info? 22 = some Try.t22 := ⟨by kernel_rfl, by kernel_rfl⟩
theorem tab23 : Try.prog.underlying 23 = some Try.t23.desc ∧ Try.prog.info? 23 = some Try.t23 := ⟨by kernel_rfl, by kernel_rfl⟩
theorem tab24 : Try.prog.underlying 24 = some Try.t24.desc ∧ Try.prog.info? 24 = some Try.t24 := ⟨by kernel_rfl, by kernel_rfl⟩
theorem tab25 : Try.prog.underlying 25 = some Try.t25.desc ∧ Try.prog.info? 25 = some Try.t25 := ⟨by kernel_rfl, by kernel_rfl⟩
theorem tab26 : Try.prog.underlying 26 = some Try.t3.desc ∧ Try.prog.info? 26 = some Try.t26 := ⟨by kernel_rfl, by kernel_rfl⟩
theorem tab28 : Try.prog.underlying 28 = some Try.t28.desc ∧ Try.prog.info? 28 = some Try.t28 := ⟨by kernel_rfl, by kernel_rfl⟩
theorem tab29 : Try.prog.underlying 29 = some Try.t29.desc ∧ Try.prog.info? 29 = some Try.t29 := ⟨by kernel_rfl, by kernel_rfl⟩
theorem tab30 : Try.prog.underlying 30 = some Try.t29.desc ∧ Try.prog.info? 30 = some Try.t30 := ⟨by kernel_rfl, by kernel_rfl⟩
theorem tab32 : Try.prog.underlying 32 = some Try.t32.desc ∧ Try.prog.info? 32 = some Try.t32 := ⟨by kernel_rfl, by kernel_rfl⟩
theorem tab33 : Try.prog.underlying 33 = some Try.t33.desc ∧ Try.prog.info? 33 = some Try.t33 := ⟨by kernel_rfl, by kernel_rfl⟩
theorem tab34 : Try.prog.underlying 34 = some Try.t34.desc ∧ Try.prog.info? 34 = some Try.t34 := ⟨by kernel_rfl, by kernel_rfl⟩
theorem tab35 : Try.prog.underlying 35 = some Try.t35.desc ∧ Try.prog.info? 35 = some Try.t35 := ⟨by kernel_rfl, by kernel_rfl⟩
theorem tab37 : Try.prog.underlying 37 = some Try.t37.desc ∧ Try.prog.info? 37 = some Try.t37 := ⟨by kernel_rfl, by kernel_rfl⟩
theorem tab38 : Try.prog.underlying 38 = some Try.t38.desc ∧ Try.prog.info? 38 = some Try.t38 := ⟨by kernel_rfl, by kernel_rfl⟩
theorem tab39 : Try.prog.underlying 39 = some Try.t39.desc ∧ Try.prog.info? 39 = some Try.t39 := ⟨by kernel_rfl, by kernel_rfl⟩
theorem tab40 : Try.prog.underlying 40 = some Try.t40.desc ∧ Try.prog.info? 40 = some Try.t40 := ⟨by kernel_rfl, by kernel_rfl⟩
theorem tab41 : Try.prog.underlying 41 = some Try.t41.desc ∧ Try.prog.info? 41 = some Try.t41 := ⟨by kernel_rfl, by kernel_rfl⟩
theorem tab42 : Try.prog.underlying 42 = some Try.t41.desc ∧ Try.prog.info? 42 = some Try.t42 := ⟨by kernel_rfl, by kernel_rfl⟩
theorem tab43 : Try.prog.underlying 43 = some Try.t43.desc ∧ Try.prog.info? 43 = some Try.t43 := ⟨by kernel_rfl, by kernel_rfl⟩
theorem tab44 : Try.prog.underlying 44 = some Try.t44.desc ∧ Try.prog.info? 44 = some Try.t44 := ⟨by kernel_rfl, by kernel_rfl⟩
theorem tab45 : Try.prog.underlying 45 = some Try.t45.desc ∧ Try.prog.info? 45 = some Try.t45 := ⟨by kernel_rfl, by kernel_rfl⟩
theorem tab46 : Try.prog.underlying 46 = some Try.t46.desc ∧ Try.prog.info? 46 = some Try.t46 := ⟨by kernel_rfl, by kernel_rfl⟩
theorem tab47 : Try.prog.underlying 47 = some Try.t47.desc ∧ Try.prog.info? 47 = some Try.t47 := ⟨by kernel_rfl, by kernel_rfl⟩
theorem tab49 : Try.prog.underlying 49 = some Try.t49.desc ∧ Try.prog.info? 49 = some Try.t49 := ⟨by kernel_rfl, by kernel_rfl⟩
theorem tab50 : Try.prog.underlying 50 = some Try.t50.desc ∧ Try.prog.info? 50 = some Try.t50 := ⟨by kernel_rfl, by kernel_rfl⟩
theorem tab51 : Try.prog.underlying 51 = some Try.t50.desc ∧ Try.prog.info? 51 = some Try.t51 := ⟨by kernel_rfl, by kernel_rfl⟩
theorem tab52 : Try.prog.underlying 52 = some Try.t52.desc ∧ Try.prog.info? 52 = some Try.t52 := ⟨by kernel_rfl, by kernel_rfl⟩
theorem tab53 : Try.prog.underlying 53 = some Try.t53.desc ∧ Try.prog.info? 53 = some Try.t53 := ⟨by kernel_rfl, by kernel_rfl⟩
theorem tab54 : Try.prog.underlying 54 = some Try.t54.desc ∧ Try.prog.info? 54 = some Try.t54 := ⟨by kernel_rfl, by kernel_rfl⟩
theorem tab55 : Try.prog.underlying 55 = some Try.t54.desc ∧ Try.prog.info? 55 = some Try.t55 := ⟨by kernel_rfl, by kernel_rfl⟩
theorem tab57 : Try.prog.underlying 57 = some Try.t57.desc ∧ Try.prog.info? 57 = some Try.t57 := ⟨by kernel_rfl, by kernel_rfl⟩
theorem tab58 : Try.prog.underlying 58 = some Try.t58.desc ∧ Try.prog.info? 58 = some Try.t58 := ⟨by kernel_rfl, by kernel_rfl⟩
theorem tab59 : Try.prog.underlying 59 = some Try.t59.desc ∧ Try.prog.info? 59 = some Try.t59 := ⟨by kernel_rfl, by kernel_rfl⟩
theorem tab60 : Try.prog.underlying 60 = some Try.t60.desc ∧ Try.prog.info? 60 = some Try.t60 := ⟨by kernel_rfl, by kernel_rfl⟩
theorem tab61 : Try.prog.underlying 61 = some Try.t61.desc ∧ Try.prog.info? 61 = some Try.t61 := ⟨by kernel_rfl, by kernel_rfl⟩
theorem tab62 : Try.prog.underlying 62 = some Try.t62.desc ∧ Try.prog.info? 62 = some Try.t62 := ⟨by kernel_rfl, by kernel_rfl⟩
theorem tab63 : Try.prog.underlying 63 = some Try.t62.desc ∧ Try.prog.info? 63 = some Try.t63 := ⟨by kernel_rfl, by kernel_rfl⟩
theorem tab64 : Try.prog.underlying 64 = some Try.t64.desc ∧ Try.prog.info? 64 = some Try.t64 := ⟨by kernel_rfl, by kernel_rfl⟩
theorem tab65 : Try.prog.underlying 65 = some Try.t65.desc ∧ Try.prog.info? 65 = some Try.t65 := ⟨by kernel_rfl, by kernel_rfl⟩
theorem tab66 : Try.prog.underlying 66 = some Try.t66.desc ∧ Try.prog.info? 66 = some Try.t66 := ⟨by kernel_rfl, by kernel_rfl⟩
theorem tab67 : Try.prog.underlying 67 = some Try.t67.desc ∧ Try.prog.info? 67 = some Try.t67 := ⟨by kernel_rfl, by kernel_rfl⟩
theorem tab68 : Try.prog.underlying 68 = some Try.t68.desc ∧ Try.prog.info? 68 = some Try.t68 := ⟨by kernel_rfl, by kernel_rfl⟩
theorem tab69 : Try.prog.underlying 69 = some Try.t69.desc ∧ Try.prog.info? 69 = some Try.t69 := ⟨by kernel_rfl, by kernel_rfl⟩
theorem tab70 : Try.prog.underlying 70 = some Try.t70.desc ∧ Try.prog.info? 70 = some Try.t70 := ⟨by kernel_rfl, by kernel_rfl⟩
theorem tab71 : Try.prog.underlying 71 = some Try.t71.desc ∧ Try.prog.info? 71 = some Try.t71 := ⟨by kernel_rfl, by kernel_rfl⟩
theorem tab72 : Try.prog.underlying 72 = some Try.t71.desc ∧ Try.prog.info? 72 = some Try.t72 := ⟨by kernel_rfl, by kernel_rfl⟩
theorem tab73 : Try.prog.underlying 73 = some Try.t73.desc ∧ Try.prog.info? 73 = some Try.t73 := ⟨by kernel_rfl, by kernel_rfl⟩
theorem tab74 : Try.prog.underlying 74 = some Try.t74.desc ∧ Try.prog.info? 74 = some Try.t74 := ⟨by kernel_rfl, by kernel_rfl⟩
theorem tab75 : Try.prog.underlying 75 = some Try.t75.desc ∧ Try.prog.info? 75 = some Try.t75 := ⟨by kernel_rfl, by kernel_rfl⟩
theorem tab76 : Try.prog.underlying 76 = some Try.t76.desc ∧ Try.prog.info? 76 = some Try.t76 := ⟨by kernel_rfl, by kernel_rfl⟩
theorem tab77 : Try.prog.underlying 77 = some Try.t77.desc ∧ Try.prog.info? 77 = some Try.t77 := ⟨by kernel_rfl, by kernel_rfl⟩
theorem tab78 : Try.prog.underlying 78 = some Try.t78.desc ∧ Try.prog.info? 78 = some Try.t78 := ⟨by kernel_rfl, by kernel_rfl⟩
theorem tab79 : Try.prog.underlying 79 = some Try.t78.desc ∧ Try.prog.info? 79 = some Try.t79 := ⟨by kernel_rfl, by kernel_rfl⟩
theorem tab80 : Try.prog.underlying 80 = some Try.t80.desc ∧ Try.prog.info? 80 = some Try.t80 := ⟨by kernel_rfl, by kernel_rfl⟩
theorem tab82 : Try.prog.underlying 82 = some Try.t82.desc ∧ Try.prog.info? 82 = some Try.t82 := ⟨by kernel_rfl, by kernel_rfl⟩
theorem tab84 : Try.prog.underlying 84 = some Try.t84.desc ∧ Try.prog.info? 84 = some Try.t84 := ⟨by kernel_rfl, by kernel_rfl⟩
theorem tab85 : Try.prog.underlying 85 = some Try.t85.desc ∧ Try.prog.info? 85 = some Try.t85 := ⟨by kernel_rfl, by kernel_rfl⟩
theorem tab86 : Try.prog.underlying 86 = some Try.t86.desc ∧ Try.prog.info? 86 = some Try.t86 := ⟨by kernel_rfl, by kernel_rfl⟩
theorem tab87 : Try.prog.underlying 87 = some Try.t87.desc ∧ Try.prog.info? 87 = some Try.t87 := ⟨by kernel_rfl, by kernel_rfl⟩
theorem tab88 : Try.prog.underlying 88 = some Try.t88.desc ∧ Try.prog.info? 88 = some Try.t88 := ⟨by kernel_rfl, by kernel_rfl⟩
theorem tab89 : Try.prog.underlying 89 = some Try.t88.desc ∧ Try.prog.info? 89 = some Try.t89 := ⟨by kernel_rfl, by kernel_rfl⟩
theorem tab90 : Try.prog.underlying 90 = some Try.t90.desc ∧ Try.prog.info? 90 = some Try.t90 := ⟨by kernel_rfl, by kernel_rfl⟩
theorem tab91 : Try.prog.underlying 91 = some Try.t91.desc ∧ Try.prog.info? 91 = some Try.t91 := ⟨by kernel_rfl, by kernel_rfl⟩
theorem tab92 : Try.prog.underlying 92 = some Try.t92.desc ∧ Try.prog.info? 92 = some Try.t92 := ⟨by kernel_rfl, by kernel_rfl⟩
theorem tab93 : Try.prog.underlying 93 = some Try.t93.desc ∧ Try.prog.info? 93 = some Try.t93 := ⟨by kernel_rfl, by kernel_rfl⟩
theorem tab94 : Try.prog.underlying 94 = some Try.t94.desc ∧ Try.prog.info? 94 = some Try.t94 := ⟨by kernel_rfl, by kernel_rfl⟩
theorem tab95 : Try.prog.underlying 95 = some Try.t95.desc ∧ Try.prog.info? 95 = some Try.t95 := ⟨by kernel_rfl, by kernel_rfl⟩
theorem tab96 : Try.prog.underlying 96 = some Try.t96.desc ∧ Try.prog.info? 96 = some Try.t96 := ⟨by kernel_rfl, by kernel_rfl⟩
theorem tab97 : Try.prog.underlying 97 = some Try.t96.desc ∧ Try.prog.info? 97 = some Try.t97 := ⟨by kernel_rfl, by kernel_rfl⟩
theorem tab98 : Try.prog.underlying 98 = some Try.t98.desc ∧ Try.prog.info? 98 = some Try.t98 := ⟨by kernel_rfl, by kernel_rfl⟩
theorem tab99 : Try.prog.underlying 99 = some Try.t99.desc ∧ Try.prog.info? 99 = some Try.t99 := ⟨by kernel_rfl, by kernel_rfl⟩
theorem tab100 : Try.prog.underlying 100 = some Try.t100.desc ∧ Try.prog.info? 100 = some Try.t100 := ⟨by kernel_rfl, by kernel_rfl⟩
theorem tab101 : Try.prog.underlying 101 = some Try.t101.desc ∧ Try.prog.info? 101 = some Try.t101 := ⟨by kernel_rfl, by kernel_rfl⟩
theorem tab102 : Try.prog.underlying 102 = some Try.t102.desc ∧ Try.prog.info? 102 = some Try.t102 := ⟨by kernel_rfl, by kernel_rfl⟩
theorem tab103 : Try.prog.underlying 103 = some Try.t103.desc ∧ Try.prog.info? 103 = some Try.t103 := ⟨by kernel_rfl, by kernel_rfl⟩
theorem tab104 : Try.prog.underlying 104 = some Try.t104.desc ∧ Try.prog.info? 104 = some Try.t104 := ⟨by kernel_rfl, by kernel_rfl⟩
theorem tab105 : Try.prog.underlying 105 = some Try.t105.desc ∧ Try.prog.info? 105 = some Try.t105 := ⟨by kernel_rfl, by kernel_rfl⟩
theorem tab106 : Try.prog.underlying 106 = some Try.t106.desc ∧ Try.prog.info? 106 = some Try.t106 := ⟨by kernel_rfl, by kernel_rfl⟩
theorem tab107 : Try.prog.underlying 107 = some Try.t107.desc ∧ Try.prog.info? 107 = some Try.t107 := ⟨by kernel_rfl, by kernel_rfl⟩
theorem tab108 : Try.prog.underlying 108 = some Try.t108.desc ∧ Try.prog.info? 108 = some Try.t108 := ⟨by kernel_rfl, by kernel_rfl⟩
theorem tab109 : Try.prog.underlying 109 = some Try.t109.desc ∧ Try.prog.info? 109 = some Try.t109 := ⟨by kernel_rfl, by kernel_rfl⟩
theorem tab111 : Try.prog.underlying 111 = some Try.t111.desc ∧ Try.prog.info? 111 = some Try.t111 := ⟨by kernel_rfl, by kernel_rfl⟩
theorem tab112 : Try.prog.underlying 112 = some Try.t112.desc ∧ Try.prog.info? 112 = some Try.t112 := ⟨by kernel_rfl, by kernel_rfl⟩
theorem tab114 : Try.prog.underlying 114 = some Try.t114.desc ∧ Try.prog.info? 114 = some Try.t114 := ⟨by kernel_rfl, by kernel_rfl⟩
theorem tab116 : Try.prog.underlying 116 = some Try.t116.desc ∧ Try.prog.info? 116 = some Try.t116 := ⟨by kernel_rfl, by kernel_rfl⟩
theorem tab117 : Try.prog.underlying 117 = some Try.t117.desc ∧ Try.prog.info? 117 = some Try.t117 := ⟨by kernel_rfl, by kernel_rfl⟩
theorem tab118 : Try.prog.underlying 118 = some Try.t118.desc ∧ Try.prog.info? 118 = some Try.t118 := ⟨by kernel_rfl, by kernel_rfl⟩
theorem tab119 : Try.prog.underlying 119 = some Try.t3.desc ∧ Try.prog.info? 119 = some Try.t119 := ⟨by kernel_rfl, by kernel_rfl⟩
theorem tab121 : Try.prog.underlying 121 = some Try.t121.desc ∧ Try.prog.info? 121 = some Try.t121 := ⟨by kernel_rfl, by kernel_rfl⟩
theorem tab122 : Try.prog.underlying 122 = some Try.t122.desc ∧ Try.prog.info? 122 = some Try.t122 := ⟨by kernel_rfl, by kernel_rfl⟩
theorem tab123 : Try.prog.underlying 123 = some Try.t123.desc ∧ Try.prog.info? 123 = some Try.t123 := ⟨by kernel_rfl, by kernel_rfl⟩
theorem tab124 : Try.prog.underlying 124 = some Try.t124.desc ∧ Try.prog.info? 124 = some Try.t124 := ⟨by kernel_rfl, by kernel_rfl⟩
theorem tab125 : Try.prog.underlying 125 = some Try.t125.desc ∧ Try.prog.info? 125 = some Try.t125 := ⟨by kernel_rfl, by kernel_rfl⟩
theorem tab126 : Try.prog.underlying 126 = some Try.t126.desc ∧ Try.prog.info? 126 = some Try.t126 := ⟨by kernel_rfl, by kernel_rfl⟩
theorem tab127 : Try.prog.underlying 127 = some Try.t127.desc ∧ Try.prog.info? 127 = some Try.t127 := ⟨by kernel_rfl, by kernel_rfl⟩
theorem tab128 : Try.prog.underlying 128 = some Try.t128.desc ∧ Try.prog.info? 128 = some Try.t128 := ⟨by kernel_rfl, by kernel_rfl⟩
theorem tab129 : Try.prog.underlying 129 = some Try.t129.desc ∧ Try.prog.info? 129 = some Try.t129 := ⟨by kernel_rfl, by kernel_rfl⟩
theorem tab130 : Try.prog.underlying 130 = some Try.t130.desc ∧ Try.prog.info? 130 = some Try.t130 := ⟨by kernel_rfl, by kernel_rfl⟩
theorem tab131 : Try.prog.underlying 131 = some Try.t46.desc ∧ Try.prog.info? 131 = some Try.t131 := ⟨by kernel_rfl, by kernel_rfl⟩
theorem tab132 : Try.prog.underlying 132 = some Try.t132.desc ∧ Try.prog.info? 132 = some Try.t132 := ⟨by kernel_rfl, by kernel_rfl⟩
theorem tab133 : Try.prog.underlying 133 = some Try.t133.desc ∧ Try.prog.info? 133 = some Try.t133 := ⟨by kernel_rfl, by kernel_rfl⟩
theorem tab134 : Try.prog.underlying 134 = some Try.t134.desc ∧ Try.prog.info? 134 = some Try.t134 := ⟨by kernel_rfl, by kernel_rfl⟩
theorem tab135 : Try.prog.underlying 135 = some Try.t135.desc ∧ Try.prog.info? 135 = some Try.t135 := ⟨by kernel_rfl, by kernel_rfl⟩
theorem tab136 : Try.prog.underlying 136 = some Try.t136.desc ∧ Try.prog.info? 136 = some Try.t136 := ⟨by kernel_rfl, by kernel_rfl⟩
theorem tab138 : Try.prog.underlying 138 = some Try.t138.desc ∧ Try.prog.info? 138 = some Try.t138 := ⟨by kernel_rfl, by kernel_rfl⟩
theorem tab139 : Try.prog.underlying 139 = some Try.t139.desc ∧ Try.prog.info? 139 = some Try.t139 := ⟨by kernel_rfl, by kernel_rfl⟩
theorem tab140 : Try.prog.underlying 140 = some Try.t140.desc ∧ Try.prog.info? 140 = some Try.t140 := ⟨by kernel_rfl, by kernel_rfl⟩
theorem tab141 : Try.prog.underlying 141 = some Try.t140.desc ∧ Try.prog.info? 141 = some Try.t141 := ⟨by kernel_rfl, by kernel_rfl⟩
theorem tab142 : Try.prog.underlying 142 = some Try.t142.desc ∧ Try.prog.info? 142 = some Try.t142 := ⟨by kernel_rfl, by kernel_rfl⟩
theorem tab143 : Try.prog.underlying 143 = some Try.t143.desc ∧ Try.prog.info? 143 = some Try.t143 := ⟨by kernel_rfl, by kernel_rfl⟩
theorem tab144 : Try.prog.underlying 144 = some Try.t143.desc ∧ Try.prog.info? 144 = some Try.t144 := ⟨by kernel_rfl, by kernel_rfl⟩
theorem tab145 : Try.prog.underlying 145 = some Try.t5.desc ∧ Try.prog.info? 145 = some Try.t145 := ⟨by kernel_rfl, by kernel_rfl⟩
theorem tab146 : Try.prog.underlying 146 = some Try.t5.desc ∧ Try.prog.info? 146 = some Try.t146 := ⟨by kernel_rfl, by kernel_rfl⟩
theorem tab147 : Try.prog.underlying 147 = some Try.t147.desc ∧ Try.prog.info? 147 = some Try.t147 := ⟨by kernel_rfl, by kernel_rfl⟩
theorem tab148 : Try.prog.underlying 148 = some Try.t148.desc ∧ Try.prog.info? 148 = some Try.t148 := ⟨by kernel_rfl, by kernel_rfl⟩
theorem tab149 : Try.prog.underlying 149 = some Try.t21.desc ∧ Try.prog.info? 149 = some Try.t149 := ⟨by kernel_rfl, by kernel_rfl⟩
theorem tab150 : Try.prog.underlying 150 = some Try.t21.desc ∧ Try.prog.info? 150 = some Try.t150 := ⟨by kernel_rfl, by kernel_rfl⟩
theorem tab151 : Try.prog.underlying 151 = some Try.t151.desc ∧ Try.prog.info? 151 = some Try.t151 := ⟨by kernel_rfl, by kernel_rfl⟩
theorem tab152 : Try.prog.underlying 152 = some Try.t151.desc ∧ Try.prog.info? 152 = some Try.t152 := ⟨by kernel_rfl, by kernel_rfl⟩
theorem tab153 : Try.prog.underlying 153 = some Try.t153.desc ∧ Try.prog.info? 153 = some Try.t153 := ⟨by kernel_rfl, by kernel_rfl⟩
noncomputable def tab : Tr := (.node 76 ⟨Try.t76.desc, Try.t76⟩ (.node 39 ⟨Try.t39.desc, Try.t39⟩ (.node 18 ⟨Try.t18.desc, Try.t18⟩ (.node 9 ⟨Try.t9.desc, Try.t9⟩ (.node 5 ⟨Try.t5.desc, Try.t5⟩ (.node 3 ⟨Try.t3.desc, Try.t3⟩ (.node 2 ⟨Try.t2.desc, Try.t2⟩ (.node 1 ⟨Try.t1.desc, Try.t1⟩ .leaf .leaf) .leaf) (.node 4 ⟨Try.t4.desc, Try.t4⟩ .leaf .leaf)) (.node 7 ⟨Try.t7.desc, Try.t7⟩ (.node 6 ⟨Try.t5.desc, Try.t6⟩ .leaf .leaf) (.node 8 ⟨Try.t7.desc, Try.t8⟩ .leaf .leaf))) (.node 14 ⟨Try.t13.desc, Try.t14⟩ (.node 12 ⟨Try.t12.desc, Try.t12⟩ (.node 11 ⟨Try.t9.desc, Try.t11⟩ (.node 10 ⟨Try.t9.desc, Try.t10⟩ .leaf .leaf) .leaf) (.node 13 ⟨Try.t13.desc, Try.t13⟩ .leaf .leaf)) (.node 16 ⟨Try.t16.desc, Try.t16⟩ (.node 15 ⟨Try.t15.desc, Try.t15⟩ .leaf .leaf) (.node 17 ⟨Try.t17.desc, Try.t17⟩ .leaf .leaf)))) (.node 28 ⟨Try.t28.desc, Try.t28⟩ (.node 23 ⟨Try.t23.desc, Try.t23⟩ (.node 21 ⟨Try.t21.desc, Try.t21⟩ (.node 20 ⟨Try.t20.desc, Try.t20⟩ (.node 19 ⟨Try.t18.desc, Try.t19⟩ .leaf .leaf) .leaf) (.node 22 ⟨Try.t22.desc, Try.t22⟩ .leaf .leaf)) (.node 25 ⟨Try.t25.desc, Try.t25⟩ (.node 24 ⟨Try.t24.desc, Try.t24⟩ .leaf .leaf) (.node 26 ⟨Try.t3.desc, Try.t26⟩ .leaf .leaf))) (.node 34 ⟨Try.t34.desc, Try.t34⟩ (.node 32 ⟨Try.t32.desc, Try.t32⟩ (.node 30 ⟨Try.t29.desc, Try.t30⟩ (.node 29 ⟨Try.t29.desc, Try.t29⟩ .leaf .leaf) .leaf) (.node 33 ⟨Try.t33.desc, Try.t33⟩ .leaf .leaf)) (.node 37 ⟨Try.t37.desc, Try.t37⟩ (.node 35 ⟨Try.t35.desc, Try.t35⟩ .leaf .leaf) (.node 38 ⟨Try.t38.desc, Try.t38⟩ .leaf .leaf))))) (.node 59 ⟨Try.t59.desc, Try.t59⟩ (.node 49 ⟨Try.t49.desc, Try.t49⟩ (.node 44 ⟨Try.t44.desc, Try.t44⟩ (.node 42 ⟨Try.t41.desc, Try.t42⟩ (.node 41 ⟨Try.t41.desc, Try.t41⟩ (.node 40 ⟨Try.t40.desc, Try.t40⟩ .leaf .leaf) .leaf) (.node 43 ⟨Try.t43.desc, Try.t43⟩ .leaf .leaf)) (.node 46 ⟨Try.t46.desc, Try.t46⟩ (.node 45 ⟨Try.t45.desc, Try.t45⟩ .leaf .leaf) (.node 47 ⟨Try.t47.desc, Try.t47⟩ .leaf .leaf))) (.node 54 ⟨Try.t54.desc, Try.t54⟩ (.node 52 ⟨Try.t52.desc, Try.t52⟩ (.node 51 ⟨Try.t50.desc, Try.t51⟩ (.node 50 ⟨Try.t50.desc, Try.t50⟩ .leaf .leaf) .leaf) (.node 53 ⟨Try.t53.desc, Try.t53⟩ .leaf .leaf)) (.node 57 ⟨Try.t57.desc, Try.t57⟩ (.node 55 ⟨Try.t54.desc, Try.t55⟩ .leaf .leaf) (.node 58 ⟨Try.t58.desc, Try.t58⟩ .leaf .leaf)))) (.node 68 ⟨Try.t68.desc, Try.t68⟩ (.node 64 ⟨Try.t64.desc, Try.t64⟩ (.node 62 ⟨Try.t62.desc, Try.t62⟩ (.node 61 ⟨Try.t61.desc, Try.t61⟩ (.node 60 ⟨Try.t60.desc, Try.t60⟩ .leaf .leaf) .leaf) (.node 63 ⟨Try.t62.desc, Try.t63⟩ .leaf .leaf)) (.node 66 ⟨Try.t66.desc, Try.t66⟩ (.node 65 ⟨Try.t65.desc, Try.t65⟩ .leaf .leaf) (.node 67 ⟨Try.t67.desc, Try.t67⟩ .leaf .leaf))) (.node 72 ⟨Try.t71.desc, Try.t72⟩ (.node 70 ⟨Try.t70.desc, Try.t70⟩ (.node 69 ⟨Try.t69.desc, Try.t69⟩ .leaf .leaf) (.node 71 ⟨Try.t71.desc, Try.t71⟩ .leaf .leaf)) (.node 74 ⟨Try.t74.desc, Try.t74⟩ (.node 73 ⟨Try.t73.desc, Try.t73⟩ .leaf .leaf) (.node 75 ⟨Try.t75.desc, Try.t75⟩ .leaf .leaf)))))) (.node 117 ⟨Try.t117.desc, Try.t117⟩ (.node 96 ⟨Try.t96.desc, Try.t96⟩ (.node 87 ⟨Try.t87.desc, Try.t87⟩ (.node 82 ⟨Try.t82.desc, Try.t82⟩ (.node 79 ⟨Try.t78.desc, Try.t79⟩ (.node 78 ⟨Try.t78.desc, Try.t78⟩ (.node 77 ⟨Try.t77.desc, Try.t77⟩ .leaf .leaf) .leaf) (.node 80 ⟨Try.t80.desc, Try.t80⟩ .leaf .leaf)) (.node 85 ⟨Try.t85.desc, Try.t85⟩ (.node 84 ⟨Try.t84.desc, Try.t84⟩ .leaf .leaf) (.node 86 ⟨Try.t86.desc, Try.t86⟩ .leaf .leaf))) (.node 92 ⟨Try.t92.desc, Try.t92⟩ (.node 90 ⟨Try.t90.desc, Try.t90⟩ (.node 89 ⟨Try.t88.desc, Try.t89⟩ (.node 88 ⟨Try.t88.desc, Try.t88⟩ .leaf .leaf) .leaf) (.node 91 ⟨Try.t91.desc, Try.t91⟩ .leaf .leaf)) (.node 94 ⟨Try.t94.desc, Try.t94⟩ (.node 93 ⟨Try.t93.desc, Try.t93⟩ .leaf .leaf) (.node 95 ⟨Try.t95.desc, Try.t95⟩ .leaf .leaf)))) (.node 105 ⟨Try.t105.desc, Try.t105⟩ (.node 101 ⟨Try.t101.desc, Try.t101⟩ (.node 99 ⟨Try.t99.desc, Try.t99⟩ (.node 98 ⟨Try.t98.desc, Try.t98⟩ (.node 97 ⟨Try.t96.desc, Try.t97⟩ .leaf .leaf) .leaf) (.node 100 ⟨Try.t100.desc, Try.t100⟩ .leaf .leaf)) (.node 103 ⟨Try.t103.desc, Try.t103⟩ (.node 102 ⟨Try.t102.desc, Try.t102⟩ .leaf .leaf) (.node 104 ⟨Try.t104.desc, Try.t104⟩ .leaf .leaf))) (.node 111 ⟨Try.t111.desc, Try.t111⟩ (.node 108 ⟨Try.t108.desc, Try.t108⟩ (.node 107 ⟨Try.t107.desc, Try.t107⟩ (.node 106 ⟨Try.t106.desc, Try.t106⟩ .leaf .leaf) .leaf) (.node 109 ⟨Try.t109.desc, Try.t109⟩ .leaf .leaf)) (.node 114 ⟨Try.t114.desc, Try.t114⟩ (.node 112 ⟨Try.t112.desc, Try.t112⟩ .leaf .leaf) (.node 116 ⟨Try.t116.desc, Try.t116⟩ .leaf .leaf))))) (.node 136 ⟨Try.t136.desc, Try.t136⟩ (.node 127 ⟨Try.t127.desc, Try.t127⟩ (.node 123 ⟨Try.t123.desc, Try.t123⟩ (.node 121 ⟨Try.t121.desc, Try.t121⟩ (.node 119 ⟨Try.t3.desc, Try.t119⟩ (.node 118 ⟨Try.t118.desc, Try.t118⟩ .leaf .leaf) .leaf) (.node 122 ⟨Try.t122.desc, Try.t122⟩ .leaf .leaf)) (.node 125 ⟨Try.t125.desc, Try.t125⟩ (.node 124 ⟨Try.t124.desc, Try.t124⟩ .leaf .leaf) (.node 126 ⟨Try.t126.desc, Try.t126⟩ .leaf .leaf))) (.node 132 ⟨Try.t132.desc, Try.t132⟩ (.node 130 ⟨Try.t130.desc, Try.t130⟩ (.node 129 ⟨Try.t129.desc, Try.t129⟩ (.node 128 ⟨Try.t128.desc, Try.t128⟩ .leaf .leaf) .leaf) (.node 131 ⟨Try.t46.desc, Try.t131⟩ .leaf .leaf)) (.node 134 ⟨Try.t134.desc, Try.t134⟩ (.node 133 ⟨Try.t133.desc, Try.t133⟩ .leaf .leaf) (.node 135 ⟨Try.t135.desc, Try.t135⟩ .leaf .leaf)))) (.node 146 ⟨Try.t5.desc, Try.t146⟩ (.node 142 ⟨Try.t142.desc, Try.t142⟩ (.node 140 ⟨Try.t140.desc, Try.t140⟩ (.node 139 ⟨Try.t139.desc, Try.t139⟩ (.node 138 ⟨Try.t138.desc, Try.t138⟩ .leaf .leaf) .leaf) (.node 141 ⟨Try.t140.desc, Try.t141⟩ .leaf .leaf)) (.node 144 ⟨Try.t143.desc, Try.t144⟩ (.node 143 ⟨Try.t143.desc, Try.t143⟩ .leaf .leaf) (.node 145 ⟨Try.t5.desc, Try.t145⟩ .leaf .leaf))) (.node 150 ⟨Try.t21.desc, Try.t150⟩ (.node 148 ⟨Try.t148.desc, Try.t148⟩ (.node 147 ⟨Try.t147.desc, Try.t147⟩ .leaf .leaf) (.node 149 ⟨Try.t21.desc, Try.t149⟩ .leaf .leaf)) (.node 152 ⟨Try.t151.desc, Try.t152⟩ (.node 151 ⟨Try.t151.desc, Try.t151⟩ .leaf .leaf) (.node 153 ⟨Try.t153.desc, Try.t153⟩ .leaf .leaf)))))))
instance tabOk : TabOk Try.prog tab := ⟨⟨tab76, ⟨tab39, ⟨tab18, ⟨tab9, ⟨tab5, ⟨tab3, ⟨tab2, ⟨tab1, trivial, trivial⟩, trivial⟩, ⟨tab4, trivial, trivial⟩⟩, ⟨tab7, ⟨tab6, trivial, trivial⟩, ⟨tab8, trivial, trivial⟩⟩⟩, ⟨tab14, ⟨tab12, ⟨tab11, ⟨tab10, trivial, trivial⟩, trivial⟩, ⟨tab13, trivial, trivial⟩⟩, ⟨tab16, ⟨tab15, trivial, trivial⟩, ⟨tab17, trivial, trivial⟩⟩⟩⟩, ⟨tab28, ⟨tab23, ⟨tab21, ⟨tab20, ⟨tab19, trivial, trivial⟩, trivial⟩, ⟨tab22, trivial, trivial⟩⟩, ⟨tab25, ⟨tab24, trivial, trivial⟩, ⟨tab26, trivial, trivial⟩⟩⟩, ⟨tab34, ⟨tab32, ⟨tab30, ⟨tab29, trivial, trivial⟩, trivial⟩, ⟨tab33, trivial, trivial⟩⟩, ⟨tab37, ⟨tab35, trivial, trivial⟩, ⟨tab38, trivial, trivial⟩⟩⟩⟩⟩, ⟨tab59, ⟨tab49, ⟨tab44, ⟨tab42, ⟨tab41, ⟨tab40, trivial, trivial⟩, trivial⟩, ⟨tab43, trivial, trivial⟩⟩, ⟨tab46, ⟨tab45, trivial, trivial⟩, ⟨tab47, trivial, trivial⟩⟩⟩, ⟨tab54, ⟨tab52, ⟨tab51, ⟨tab50, trivial, trivial⟩, trivial⟩, ⟨tab53, trivial, trivial⟩⟩, ⟨tab57, ⟨tab55, trivial, trivial⟩, ⟨tab58, trivial, trivial⟩⟩⟩⟩, ⟨tab68, ⟨tab64, ⟨tab62, ⟨tab61, ⟨tab60, trivial, trivial⟩, trivial⟩, ⟨tab63, trivial, trivial⟩⟩, ⟨tab66, ⟨tab65, trivial, trivial⟩, ⟨tab67, trivial, trivial⟩⟩⟩, ⟨tab72, ⟨tab70, ⟨tab69, trivial, trivial⟩, ⟨tab71, trivial, trivial⟩⟩, ⟨tab74, ⟨tab73, trivial, trivial⟩, ⟨tab75, trivial, trivial⟩⟩⟩⟩⟩⟩, ⟨tab117, ⟨tab96, ⟨tab87, ⟨tab82, ⟨tab79, ⟨tab78, ⟨tab77, trivial, trivial⟩, trivial⟩, ⟨tab80, trivial, trivial⟩⟩, ⟨tab85, ⟨tab84, trivial, trivial⟩, ⟨tab86, trivial, trivial⟩⟩⟩, ⟨tab92, ⟨tab90, ⟨tab89, ⟨tab88, trivial, trivial⟩, trivial⟩, ⟨tab91, trivial, trivial⟩⟩, ⟨tab94, ⟨tab93, trivial, trivial⟩, ⟨tab95, trivial, trivial⟩⟩⟩⟩, ⟨tab105, ⟨tab101, ⟨tab99, ⟨tab98, ⟨tab97, trivial, trivial⟩, trivial⟩, ⟨tab100, trivial, trivial⟩⟩, ⟨tab103, ⟨tab102, trivial, trivial⟩, ⟨tab104, trivial, trivial⟩⟩⟩, ⟨tab111, ⟨tab108, ⟨tab107, ⟨tab106, trivial, trivial⟩, trivial⟩, ⟨tab109, trivial, trivial⟩⟩, ⟨tab114, ⟨tab112, trivial, trivial⟩, ⟨tab116, trivial, trivial⟩⟩⟩⟩⟩, ⟨tab136, ⟨tab127, ⟨tab123, ⟨tab121, ⟨tab119, ⟨tab118, trivial, trivial⟩, trivial⟩, ⟨tab122, trivial, trivial⟩⟩, ⟨tab125, ⟨tab124, trivial, trivial⟩, ⟨tab126, trivial, trivial⟩⟩⟩, ⟨tab132, ⟨tab130, ⟨tab129, ⟨tab128, trivial, trivial⟩, trivial⟩, ⟨tab131, trivial, trivial⟩⟩, ⟨tab134, ⟨tab133, trivial, trivial⟩, ⟨tab135, trivial, trivial⟩⟩⟩⟩, ⟨tab146, ⟨tab142, ⟨tab140, ⟨tab139, ⟨tab138, trivial, trivial⟩, trivial⟩, ⟨tab141, trivial, trivial⟩⟩, ⟨tab144, ⟨tab143, trivial, trivial⟩, ⟨tab145, trivial, trivial⟩⟩⟩, ⟨tab150, ⟨tab148, ⟨tab147, trivial, trivial⟩, ⟨tab149, trivial, trivial⟩⟩, ⟨tab152, ⟨tab151, trivial, trivial⟩, ⟨tab153, trivial, trivial⟩⟩⟩⟩⟩⟩⟩⟩
theorem mixed : Try.prog.follows .mixedOrders = true := by kernel_rfl
theorem go {A B : Prop} (a : A) (h : Hold A → B := by (intro h; (repeat' (first | refine J_adv (U := tab) rfl ?_ | (refine J_isG ?_; first | refine J_guardT rfl rfl rfl rfl ?_ | refine J_guardF rfl rfl rfl rfl rfl rfl rfl ?_ | refine J_guardU rfl rfl rfl rfl rfl rfl ?_ | refine J_guardF0 rfl rfl rfl rfl rfl rfl ?_) | (refine J_isLoad ?_; first | refine J_load (U := tab) 0 rfl rfl rfl rfl rfl rfl ?_ | refine J_load (U := tab) 1 rfl rfl rfl rfl rfl rfl ?_ | refine J_load (U := tab) 2 rfl rfl rfl rfl rfl rfl ?_ | refine J_load (U := tab) 3 rfl rfl rfl rfl rfl rfl ?_ | refine J_load (U := tab) 4 rfl rfl rfl rfl rfl rfl ?_ | refine J_load (U := tab) 5 rfl rfl rfl rfl rfl rfl ?_ | refine J_loadH (U := tab) 0 rfl rfl rfl rfl rfl rfl ?_ | refine J_loadH (U := tab) 1 rfl rfl rfl rfl rfl rfl ?_ | refine J_loadH (U := tab) 2 rfl rfl rfl rfl rfl rfl ?_) | (refine J_isPick ?_; first | refine J_pickT rfl rfl rfl ?_ | refine J_pickF rfl rfl rfl ?_) | (refine J_isBin ?_; first | refine J_add rfl rfl rfl (by simp only [inK]; omega) ?_ | refine J_sub' rfl rfl rfl (by simp only [inK]; omega) ?_) | (refine J_isConv ?_; refine J_conv (U := tab) rfl rfl rfl rfl rfl rfl (by simp only [inK]; omega) ?_) | (refine J_isStore ?_; first | refine J_store (U := tab) 0 (fun _ _ => trivial) rfl rfl rfl rfl rfl rfl rfl rfl rfl ?_ | refine J_store (U := tab) 1 (fun _ _ => trivial) rfl rfl rfl rfl rfl rfl rfl rfl rfl ?_ | refine J_store (U := tab) 2 (fun _ _ => trivial) rfl rfl rfl rfl rfl rfl rfl rfl rfl ?_ | refine J_store (U := tab) 3 (fun _ _ => trivial) rfl rfl rfl rfl rfl rfl rfl rfl rfl ?_) | refine J_end ?_ | refine K_regionA rfl ?_ | refine K_condT rfl rfl ?_ | refine K_condF rfl rfl ?_)); exact h.out)) : B := h ⟨a⟩
theorem go1 {A B : Prop} (a : A) (h : Hold A → B := by (intro h; (first | refine J_adv (U := tab) rfl ?_ | (refine J_isG ?_; first | refine J_guardT rfl rfl rfl rfl ?_ | refine J_guardF rfl rfl rfl rfl rfl rfl rfl ?_ | refine J_guardU rfl rfl rfl rfl rfl rfl ?_ | refine J_guardF0 rfl rfl rfl rfl rfl rfl ?_) | (refine J_isLoad ?_; first | refine J_load (U := tab) 0 rfl rfl rfl rfl rfl rfl ?_ | refine J_load (U := tab) 1 rfl rfl rfl rfl rfl rfl ?_ | refine J_load (U := tab) 2 rfl rfl rfl rfl rfl rfl ?_ | refine J_load (U := tab) 3 rfl rfl rfl rfl rfl rfl ?_ | refine J_load (U := tab) 4 rfl rfl rfl rfl rfl rfl ?_ | refine J_load (U := tab) 5 rfl rfl rfl rfl rfl rfl ?_ | refine J_loadH (U := tab) 0 rfl rfl rfl rfl rfl rfl ?_ | refine J_loadH (U := tab) 1 rfl rfl rfl rfl rfl rfl ?_ | refine J_loadH (U := tab) 2 rfl rfl rfl rfl rfl rfl ?_) | (refine J_isPick ?_; first | refine J_pickT rfl rfl rfl ?_ | refine J_pickF rfl rfl rfl ?_) | (refine J_isBin ?_; first | refine J_add rfl rfl rfl (by simp only [inK]; omega) ?_ | refine J_sub' rfl rfl rfl (by simp only [inK]; omega) ?_) | (refine J_isConv ?_; refine J_conv (U := tab) rfl rfl rfl rfl rfl rfl (by simp only [inK]; omega) ?_) | (refine J_isStore ?_; first | refine J_store (U := tab) 0 (fun _ _ => trivial) rfl rfl rfl rfl rfl rfl rfl rfl rfl ?_ | refine J_store (U := tab) 1 (fun _ _ => trivial) rfl rfl rfl rfl rfl rfl rfl rfl rfl ?_ | refine J_store (U := tab) 2 (fun _ _ => trivial) rfl rfl rfl rfl rfl rfl rfl rfl rfl ?_ | refine J_store (U := tab) 3 (fun _ _ => trivial) rfl rfl rfl rfl rfl rfl rfl rfl rfl ?_) | refine J_end ?_ | refine K_regionA rfl ?_ | refine K_condT rfl rfl ?_ | refine K_condF rfl rfl ?_); (repeat' (first | refine J_adv (U := tab) rfl ?_ | (refine J_isG ?_; first | refine J_guardT rfl rfl rfl rfl ?_ | refine J_guardF rfl rfl rfl rfl rfl rfl rfl ?_ | refine J_guardU rfl rfl rfl rfl rfl rfl ?_ | refine J_guardF0 rfl rfl rfl rfl rfl rfl ?_) | (refine J_isLoad ?_; first | refine J_load (U := tab) 0 rfl rfl rfl rfl rfl rfl ?_ | refine J_load (U := tab) 1 rfl rfl rfl rfl rfl rfl ?_ | refine J_load (U := tab) 2 rfl rfl rfl rfl rfl rfl ?_ | refine J_load (U := tab) 3 rfl rfl rfl rfl rfl rfl ?_ | refine J_load (U := tab) 4 rfl rfl rfl rfl rfl rfl ?_ | refine J_load (U := tab) 5 rfl rfl rfl rfl rfl rfl ?_ | refine J_loadH (U := tab) 0 rfl rfl rfl rfl rfl rfl ?_ | refine J_loadH (U := tab) 1 rfl rfl rfl rfl rfl rfl ?_ | refine J_loadH (U := tab) 2 rfl rfl rfl rfl rfl rfl ?_) | (refine J_isPick ?_; first | refine J_pickT rfl rfl rfl ?_ | refine J_pickF rfl rfl rfl ?_) | (refine J_isBin ?_; first | refine J_add rfl rfl rfl (by simp only [inK]; omega) ?_ | refine J_sub' rfl rfl rfl (by simp only [inK]; omega) ?_) | (refine J_isConv ?_; refine J_conv (U := tab) rfl rfl rfl rfl rfl rfl (by simp only [inK]; omega) ?_) | (refine J_isStore ?_; first | refine J_store (U := tab) 0 (fun _ _ => trivial) rfl rfl rfl rfl rfl rfl rfl rfl rfl ?_ | refine J_store (U := tab) 1 (fun _ _ => trivial) rfl rfl rfl rfl rfl rfl rfl rfl rfl ?_ | refine J_store (U := tab) 2 (fun _ _ => trivial) rfl rfl rfl rfl rfl rfl rfl rfl rfl ?_ | refine J_store (U := tab) 3 (fun _ _ => trivial) rfl rfl rfl rfl rfl rfl rfl rfl rfl ?_) | refine J_end ?_ | refine K_regionA rfl ?_ | refine K_condT rfl rfl ?_ | refine K_condF rfl rfl ?_)); exact h.out)) : B := h ⟨a⟩
theorem goR {A B : Prop} (a : A) (h : Hold A → B := by (intro h; (repeat' (first | refine J_adv (U := tab) rfl ?_ | (refine J_isG ?_; first | refine J_guardT rfl rfl rfl rfl ?_ | refine J_guardF rfl rfl rfl rfl rfl rfl rfl ?_ | refine J_guardU rfl rfl rfl rfl rfl rfl ?_ | refine J_guardF0 rfl rfl rfl rfl rfl rfl ?_) | (refine J_isLoad ?_; first | refine J_load (U := tab) 0 rfl rfl rfl rfl rfl rfl ?_ | refine J_load (U := tab) 1 rfl rfl rfl rfl rfl rfl ?_ | refine J_load (U := tab) 2 rfl rfl rfl rfl rfl rfl ?_ | refine J_load (U := tab) 3 rfl rfl rfl rfl rfl rfl ?_ | refine J_load (U := tab) 4 rfl rfl rfl rfl rfl rfl ?_ | refine J_load (U := tab) 5 rfl rfl rfl rfl rfl rfl ?_ | refine J_loadH (U := tab) 0 rfl rfl rfl rfl rfl rfl ?_ | refine J_loadH (U := tab) 1 rfl rfl rfl rfl rfl rfl ?_ | refine J_loadH (U := tab) 2 rfl rfl rfl rfl rfl rfl ?_) | (refine J_isPick ?_; first | refine J_pickT rfl rfl rfl ?_ | refine J_pickF rfl rfl rfl ?_) | (refine J_isBin ?_; first | refine J_add rfl rfl rfl (by simp only [inK]; omega) ?_ | refine J_sub' rfl rfl rfl (by simp only [inK]; omega) ?_) | (refine J_isConv ?_; refine J_conv (U := tab) rfl rfl rfl rfl rfl rfl (by simp only [inK]; omega) ?_) | (refine J_isStore ?_; first | refine J_store (U := tab) 0 (fun _ _ => trivial) rfl rfl rfl rfl rfl rfl rfl rfl rfl ?_ | refine J_store (U := tab) 1 (fun _ _ => trivial) rfl rfl rfl rfl rfl rfl rfl rfl rfl ?_ | refine J_store (U := tab) 2 (fun _ _ => trivial) rfl rfl rfl rfl rfl rfl rfl rfl rfl ?_ | refine J_store (U := tab) 3 (fun _ _ => trivial) rfl rfl rfl rfl rfl rfl rfl rfl rfl ?_) | refine J_end ?_)); exact h.out)) : B := h ⟨a⟩
end Go.Proofs.Ythcjmhlmoamjpaa

/- tlv, part 0: bytes that are seen. -/
set_option linter.unusedVariables false
set_option linter.unusedSimpArgs false
namespace Go.Proofs.Ythcjmhlmoamjpaa
open Go Go.SL
theorem bV_at {A : HP} {v : Value} {bs : List UInt8} (hv : Vw A v bs.length (bV bs)) (h : 0 < bs.length) : ∃ b o c, v = .slice (some ⟨b, o, none⟩) bs.length c := hv.some (by cases bs with
  | nil => simp at h
  | cons x l => simp [bV])
theorem bV_getD {bs : List UInt8} {i : Nat} (h : i < bs.length) : (bV bs)[i]? = some (u8 (bs.getD i 0)) := by
  rw [List.getD_eq_getElem?_getD]
  simp [bV, h]
theorem shl_slot {x q : Nat} (y : Nat) (h : x * 2 ^ (min q 64) = y) (hy : y < 9223372036854775808) : Value.int .i64 (IntKind.i64.wrap ((x : Int) * 2 ^ (min ((q : Int).toNat) IntKind.i64.bits))) = .int .i64 (y : Int) := by
  have e : (x : Int) * 2 ^ (min ((q : Int).toNat) IntKind.i64.bits) = (y : Int) := by
    show (x : Int) * 2 ^ (min q 64) = _
    rw [← h]; push_cast; rfl
  rw [e, wrap_in (by simp only [inK]; omega)]
end Go.Proofs.Ythcjmhlmoamjpaa

