/- Texts of one claim, joined: EngU, EngY, EngX, Fm, EngN, EngO, EngP, EngQ, EngR, Tab, Tl0. -/
import Derived.Test.YtpecmnaikjbanaaGreatDoorQBL2
import Derived.Test.YtpecmnaikjbanaaGreatDoorQBL3
import Derived.Lib.MakeNoZero
import Derived.RangeFuncRecord
import Derived.RangeFuncIn
import GoSem.Extern.SlicesOverlaps
import Derived.Test.YtpecmnaikjbanaaGreatDoorProg
/- Engine, part U: assertions sought out by themselves; calls and ends by them. Nothing here names a program. -/
set_option linter.unusedVariables false
set_option linter.unusedSimpArgs false
namespace Go.SL
open Go
theorem Ent.take1 {H H' rest : List HP} {A : HP} (i : Nat) (h : nthP i H [] = .mk A rest) (hr : Ent rest H') : Ent H (A :: H') :=
 (Ent.perm (by simpa using nthP_perm i H [] A rest h)).trans (Ent.cons A hr)
theorem Ent.toNil (H : List HP) : Ent H [] := fun h hs => ⟨fun _ => none, ⟨fun b o e => (by cases e), fun _ => rfl⟩⟩
theorem entA {H H' : List HP} (h : Ent H H' := by (repeat' (first | exact Ent.refl _ | exact Ent.toNil _ | refine Ent.take1 0 rfl ?_ | refine Ent.take1 1 rfl ?_ | refine Ent.take1 2 rfl ?_ | refine Ent.take1 3 rfl ?_ | refine Ent.take1 4 rfl ?_ | refine Ent.take1 5 rfl ?_ | refine Ent.take1 6 rfl ?_ | refine Ent.take1 7 rfl ?_ | refine Ent.take1 8 rfl ?_ | refine Ent.take1 9 rfl ?_ | refine Ent.take1 10 rfl ?_ | refine Ent.take1 11 rfl ?_ | refine Ent.take1 12 rfl ?_ | refine Ent.take1 13 rfl ?_ | refine Ent.take1 14 rfl ?_ | refine (Ent.drop _ _).trans ?_))) : Ent H H' := h
section
variable {P : Program} {f : FuncId} {n : Nat} {R : Ending → World → Prop} {G : Glob} {k : List Item} {L : Lst} {H : List HP} {S : World → Prop} {all : Array Oper} {rest : Pl} {d : Tmp} {ty : TypeId} {pos : String} {af : Array Edge} {gd : Option (Nat × Bool)}
theorem J_callE {fo : Operand} {args : Array Operand} {tys : Array TypeId} {g : FuncId} {cap : Array Value} {vs : List Value} {Pre Fr : List HP} {Post : Value → List HP → Prop} (hd : Nat.blt d n = true)
  (hf : ev L fo = some (.func (.func g) #[] cap)) (hargs : evs L args.toList [] = .mk vs) {avs : List Value} (has : avs = vs ++ cap.toList) (c : Ctr P g avs Pre Post) (he : Ent H (Pre ++ Fr))
  (h : ∀ v H', Post v H' → J P f n R G S all rest k ((d, v) :: L) (H' ++ Fr))
  (hS : ∀ v H' w, Post v H' → Sat G w (H' ++ Fr) → Sx rest S w) :
  J P f n R G S all (.cons false true ⟨some d, .call { callee := .value fo, args := args, argTypes := tys }, ty, pos, af, gd⟩ rest) k L H := by
 intro a w ha hw _
 refine .inl ⟨.inl rfl, .inr ⟨rfl, ?_⟩⟩
 have hr : (execOp a.eval ⟨some d, .call { callee := .value fo, args := args, argTypes := tys }, ty, pos, af, gd⟩).run P w = .ok (.enter g avs.toArray) w := by
  simp only [execOp, resolve, Sem.run_bind, ha.ev hf, Deferred.ofValue, Sem.run_pure, Result.andThen_ok, invoke]
  rw [run_callFunc c.1, evs_arr ha.1 _ _ hargs, has]
  congr 2
  simp
 refine wpIn_call (fun c hc => by cases hc) hr (Calls.mono (c.2 G w Fr (hw.ent he)) ?_)
 rintro e w' ⟨v, H', rfl, hpost, hw'⟩
 exact ⟨v, rfl, hS v H' w' hpost hw', h v H' hpost _ w' (ha.put hd v) hw' (hS v H' w' hpost hw')⟩
theorem J_call0E {fo : Operand} {args : Array Operand} {tys : Array TypeId} {g : FuncId} {cap : Array Value} {vs : List Value} {Pre Fr : List HP} {Post : Value → List HP → Prop}
  (hf : ev L fo = some (.func (.func g) #[] cap)) (hargs : evs L args.toList [] = .mk vs) {avs : List Value} (has : avs = vs ++ cap.toList) (c : Ctr P g avs Pre Post) (he : Ent H (Pre ++ Fr))
  (h : ∀ v H', Post v H' → J P f n R G S all rest k L (H' ++ Fr))
  (hS : ∀ v H' w, Post v H' → Sat G w (H' ++ Fr) → Sx rest S w) :
  J P f n R G S all (.cons false true ⟨none, .call { callee := .value fo, args := args, argTypes := tys }, ty, pos, af, gd⟩ rest) k L H := by
 intro a w ha hw _
 refine .inl ⟨.inl rfl, .inr ⟨rfl, ?_⟩⟩
 have hr : (execOp a.eval ⟨none, .call { callee := .value fo, args := args, argTypes := tys }, ty, pos, af, gd⟩).run P w = .ok (.enter g avs.toArray) w := by
  simp only [execOp, resolve, Sem.run_bind, ha.ev hf, Deferred.ofValue, Sem.run_pure, Result.andThen_ok, invoke]
  rw [run_callFunc c.1, evs_arr ha.1 _ _ hargs, has]
  congr 2
  simp
 refine wpIn_call (fun c hc => by cases hc) hr (Calls.mono (c.2 G w Fr (hw.ent he)) ?_)
 rintro e w' ⟨v, H', rfl, hpost, hw'⟩
 exact ⟨v, rfl, hS v H' w' hpost hw', h v H' hpost _ w' ha hw' (hS v H' w' hpost hw')⟩
theorem K_mid {k0 k' : List Item} {α : Type} (m : Nat) (I : α → Prop) (Lf : α → Lst) (Hf : α → List HP) (hk : advK 1000 (k0.drop m) = .mk k') (tail : ∀ y, I y → K P f n R G k' (Lf y) (Hf y))
  (h : (∀ y, I y → K P f n R G k' (Lf y) (Hf y)) → K P f n R G k0 L H) : K P f n R G k0 L H := h tail
theorem K_to {k0 k' : List Item} {α : Type} {I : α → Prop} {Lf : α → Lst} {Hf : α → List HP} (ih : ∀ y, I y → K P f n R G k' (Lf y) (Hf y)) (y : α) (hk : advK 1000 k0 = .mk k') (hI : I y)
  (hL : ∀ t v, fget (Lf y) t = some v → fget L t = some v) (hH : Ent H (Hf y)) : K P f n R G k0 L H := K_advK 1000 hk (K_sub hL (K_ent hH (ih y hI)))
theorem K_adv1 {k0 k' : List Item} (hk : advK 1000 k0 = .mk k') (h : K P f n R G k' L H) : K P f n R G k0 L H := K_advK 1000 hk h
end
end Go.SL
/- Engine, part Y: functions with first arguments bound; sums of strings; a row without noughts. Nothing here names a program. -/
namespace Go.SL
open Go
section
variable {P : Program} {U : Tr} [hU : TabOk P U] {f : FuncId} {n : Nat} {R : Ending → World → Prop} {G : Glob} {k : List Item} {L : Lst} {H : List HP} {S : World → Prop} {all : Array Oper} {rest : Pl} {d : Tmp} {ty : TypeId} {pos : String} {af : Array Edge} {gd : Option (Nat × Bool)} {m : Bool}
theorem J_callF {fo : Operand} {args : Array Operand} {tys : Array TypeId} {g : FuncId} {fi cap : Array Value} {vs : List Value} {Pre Fr : List HP} {Post : Value → List HP → Prop} (hd : Nat.blt d n = true)
  (hf : ev L fo = some (.func (.func g) fi cap)) (hargs : evs L args.toList [] = .mk vs) {avs : List Value} (has : avs = fi.toList ++ vs ++ cap.toList) (c : Ctr P g avs Pre Post) (he : Ent H (Pre ++ Fr))
  (h : ∀ v H', Post v H' → J P f n R G S all rest k ((d, v) :: L) (H' ++ Fr))
  (hS : ∀ v H' w, Post v H' → Sat G w (H' ++ Fr) → Sx rest S w) :
  J P f n R G S all (.cons false true ⟨some d, .call { callee := .value fo, args := args, argTypes := tys }, ty, pos, af, gd⟩ rest) k L H := by
 intro a w ha hw _
 refine .inl ⟨.inl rfl, .inr ⟨rfl, ?_⟩⟩
 have hr : (execOp a.eval ⟨some d, .call { callee := .value fo, args := args, argTypes := tys }, ty, pos, af, gd⟩).run P w = .ok (.enter g avs.toArray) w := by
  simp only [execOp, resolve, Sem.run_bind, ha.ev hf, Deferred.ofValue, Sem.run_pure, Result.andThen_ok, invoke]
  rw [run_callFunc c.1, evs_arr ha.1 _ _ hargs, has]
  congr 2
  apply Array.ext'
  simp
 refine wpIn_call (fun c hc => by cases hc) hr (Calls.mono (c.2 G w Fr (hw.ent he)) ?_)
 rintro e w' ⟨v, H', rfl, hpost, hw'⟩
 exact ⟨v, rfl, hS v H' w' hpost hw', h v H' hpost _ w' (ha.put hd v) hw' (hS v H' w' hpost hw')⟩
theorem J_strAdd {t yt : TypeId} {x y : Operand} {p q : ByteArray} (hd : Nat.blt d n = true) (hx : ev L x = some (.string p)) (hy : ev L y = some (.string q)) (hr : p.size + q.size ≤ 9223372036854775807)
    (h : J P f n R G S all rest k ((d, .string (p ++ q)) :: L) H) : J P f n R G S all (.cons m true ⟨some d, .binOp .add t x y yt, ty, pos, af, gd⟩ rest) k L H :=
  J_pure hd (fun a ha w => by
    have h0 : ¬ (((p.size + q.size : Nat) : Int) > IntKind.i64.max) := by have : IntKind.i64.max = 9223372036854775807 := by decide
                                                                          omega
    simp only [execOp, ha.ev hx, ha.ev hy, eqGuard, Sem.run_bind, Sem.run_pure, Result.andThen_ok, binOp_string_add, Op.stringOp]
    rw [if_neg h0]
    rfl) h
end
end Go.SL
/- Engine, part X: ranges over functions: the loop's record, its rounds, calls of yield, the statement. Nothing here names a program. -/
namespace Go.SL
open Go
def loopP (l : Nat) (st : LoopState) (pd : Option Code) (f : FuncId) (n : Nat) (L : Lst) (ps : Array Tmp) (assign body : Code) (r : Nat) : HP := fun h =>
 ∃ tmps : Array Value, (tmps.size = n ∧ ∀ t v, fget L t = some v → tmps[t]? = some v) ∧ pts l (.loop { state := st, pending := pd, fn := f, tmps := tmps, params := ps, assign := assign, body := body, defers := r }) h
def CtrY (P : Program) (l : Nat) (args : List Value) (Pre : List HP) (Post : Value → List HP → Prop) : Prop :=
 ∀ G w F, Sat G w (Pre ++ F) → ∃ fn tmps assign body, (Instr.yield l args.toArray).run P w = .ok (.round l fn tmps assign body) w ∧
  ∀ ro, RoundIn (fw ro) 0 P l fn tmps assign body w fun e w' => ∃ v H, e = .returned v ∧ Post v H ∧ Sat G w' (H ++ F)
def putL : List Nat → List Value → Lst → Lst
 | p :: ps, v :: vs, L => putL ps vs ((p, v) :: L)
 | _, _, L => L
def inB (n : Nat) : List Nat → Bool
 | [] => true
 | p :: ps => Nat.blt p n && inB n ps
theorem has_put {n : Nat} : ∀ (ps : List Nat) (vs : List Value) (L : Lst) (tmps : Array Value), inB n ps = true → tmps.size = n → (∀ t v, fget L t = some v → tmps[t]? = some v) →
  Has n (putL ps vs L) { tmps := (ps.zip vs).foldl (fun tmps (x : Nat × Value) => tmps.setIfInBounds x.1 x.2) tmps, defers := [] }
 | [], vs, L, tmps, _, hs, hg => ⟨hs, trivial, hg⟩
 | p :: ps, [], L, tmps, _, hs, hg => ⟨by simpa using hs, trivial, by simpa [putL] using hg⟩
 | p :: ps, v :: vs, L, tmps, hb, hs, hg => by
  simp only [inB, Bool.and_eq_true] at hb
  have h1 : Has n L { tmps := tmps, defers := [] } := ⟨hs, trivial, hg⟩
  have h2 := h1.put hb.1 v
  exact has_put ps vs _ _ hb.2 h2.1 h2.2.2
def EndsY (R : Ending → World → Prop) (G : Glob) (l : Nat) (F : List HP) (Post : Value → List HP → Prop) : Prop :=
 (G.ro = some l ∧ G.ds = []) ∧ ∀ v H w, Post v H → Sat G w (H ++ F) → R (.returned v) w
section
variable {P : Program} {f : FuncId} {n : Nat} {R : Ending → World → Prop} {G : Glob} {k : List Item} {L : Lst} {H : List HP} {l r : Nat} {st : LoopState} {pd : Option Code} {n0 : Nat} {f0 : FuncId} {L0 : Lst} {ps : Array Tmp} {assign body : Code}
theorem loopP_get {w : World} (hs : Sat G w (loopP l st pd f0 n0 L0 ps assign body r :: H)) : ∃ tmps : Array Value, (tmps.size = n0 ∧ ∀ t v, fget L0 t = some v → tmps[t]? = some v) ∧ Sat G w (pts l (.loop { state := st, pending := pd, fn := f0, tmps := tmps, params := ps, assign := assign, body := body, defers := r }) :: H) := by
 obtain ⟨t, o, u, hp, hpw, h1, h2, ⟨tmps, ht, hA⟩, hH, hd, he⟩ := hs
 exact ⟨tmps, ht, t, o, u, hp, hpw, h1, h2, hA, hH, hd, he⟩
theorem loopP_put {tmps : Array Value} (ht : tmps.size = n0 ∧ ∀ t v, fget L0 t = some v → tmps[t]? = some v) : Ent (pts l (.loop { state := st, pending := pd, fn := f0, tmps := tmps, params := ps, assign := assign, body := body, defers := r }) :: H) (loopP l st pd f0 n0 L0 ps assign body r :: H) :=
 fun h hs => ⟨h, sub.refl h, star_mono (fun h hp => ⟨tmps, ht, hp⟩) (fun _ h => h) hs⟩
theorem CtrY.of_K {args : List Value} {Pre : List HP} {Post : Value → List HP → Prop} (hps : Nat.beq ps.toList.length args.length = true) (hin : inB n0 ps.toList = true)
  (h : ∀ G F R, EndsY R G l F Post → K P f0 n0 R G [.code assign, .beginRound, .code body] (putL ps.toList args L0) (loopP l .ready none f0 n0 L0 ps assign body r :: (Pre ++ F))) :
  CtrY P l args (loopP l .ready none f0 n0 L0 ps assign body r :: Pre) Post := by
 intro G w F hw
 obtain ⟨tmps, ht, hw1⟩ := loopP_get (H := Pre ++ F) hw
 have hg := hw1.get (i := 0) rfl
 have hsz : args.toArray.size = ps.size := by have := Nat.eq_of_beq_eq_true hps; simpa using this.symm
 refine ⟨_, _, _, _, run_yield hg hsz, fun ro => ⟨trivial, fun c cs _ => ?_⟩⟩
 have hk := h { G with ro := some l, ds := [] } F (fun e w' => ∃ v H, e = .returned v ∧ Post v H ∧ Sat G w' (H ++ F)) ⟨⟨rfl, rfl⟩, fun v H w' hp hs => ⟨v, H, rfl, hp, hs⟩⟩
 have hz : (ps.zip args.toArray).foldl (fun (tmps : Array Value) (x : Tmp × Value) => tmps.setIfInBounds x.1 x.2) tmps = (ps.toList.zip args).foldl (fun tmps (x : Nat × Value) => tmps.setIfInBounds x.1 x.2) tmps := by
  rw [← Array.foldl_toList, Array.toList_zip]
 have ha : HasG { G with ro := some l, ds := [] } n0 (putL ps.toList args L0) { tmps := (ps.zip args.toArray).foldl (fun (tmps : Array Value) (x : Tmp × Value) => tmps.setIfInBounds x.1 x.2) tmps, defers := [] } := ⟨by rw [hz]; exact has_put ps.toList args L0 tmps hin ht.1 ht.2, rfl⟩
 obtain ⟨v, w', ⟨v', H', he, hp, hs⟩, hst⟩ := hk _ w ha (hw1.ent (loopP_put ht)) (c :: cs) c cs rfl
 cases he
 exact ⟨.returned v, w', ⟨v, H', rfl, hp, hs⟩, (StepsIn.of_steps hst).mono fun m _ => fenced_fw P ro m⟩
theorem K_beginRound {k0 : List Item} (hk : advK 1000 k0 = .mk (.beginRound :: k)) {F : List HP} {Post : Value → List HP → Prop} (hR : EndsY R G l F Post)
  (h : K P f n R G k L (loopP l .busy pd f0 n0 L0 ps assign body r :: H)) : K P f n R G k0 L (loopP l .ready pd f0 n0 L0 ps assign body r :: H) := by
 refine K_advK 1000 hk ?_
 intro a w ha hw cs
 obtain ⟨tmps, ht, hw1⟩ := loopP_get hw
 have hg := hw1.get (i := 0) rfl
 have hb := run_beginRound (P := P) hg rfl
 have hw2 := (hw1.set0 (o' := .loop { state := .busy, pending := pd, fn := f0, tmps := tmps, params := ps, assign := assign, body := body, defers := r })).ent (loopP_put ht)
 exact (h a _ ha hw2 cs).of_steps (.one (stepR_beginRound (b := ({ (default : Frame) with fn := f, kind := .normal, roundOf := G.ro } : Frame)) hR.1.1 hb))
theorem round_end {a : Act} {w w' : World} {k1 : List Item} {cs : List Frame} {v : Value} (hro : G.ro = some l) (hR : R (.returned v) w') (hs : ∀ c cs', step P (lone (bf G.ro f a k1) (c :: cs') w) = .next (lone (c.finish v) cs' w')) : Owed P f R cs (lone (bf G.ro f a k1) cs w) G.ro := by
 rw [hro] at hs ⊢
 intro c cs' hcs
 subst hcs
 exact ⟨v, w', hR, .one (hs c cs')⟩
theorem endRound_sat {w : World} (jump : Option Code) (hw : Sat G w (loopP l st pd f0 n0 L0 ps assign body r :: H)) : ∃ w', (Instr.endRound l jump).run P w = .ok (.bool jump.isNone) w' ∧ Sat G w' (loopP l (if jump.isNone then .ready else .done) jump f0 n0 L0 ps assign body r :: H) := by
 obtain ⟨tmps, ht, hw1⟩ := loopP_get hw
 have hg := hw1.get (i := 0) rfl
 exact ⟨_, run_endRound (P := P) jump hg, (hw1.set0 (o' := .loop { state := if jump.isNone then .ready else .done, pending := jump, fn := f0, tmps := tmps, params := ps, assign := assign, body := body, defers := r })).ent (loopP_put ht)⟩
theorem K_roundEnd {k0 : List Item} {F Hq : List HP} {Post : Value → List HP → Prop} (hR : EndsY R G l F Post) (hk : advK 1000 k0 = .mk []) (he : Ent H (loopP l st pd f0 n0 L0 ps assign body r :: (Hq ++ F)))
  (hp : Post (.bool true) (loopP l .ready none f0 n0 L0 ps assign body r :: Hq)) : K P f n R G k0 L H := by
 refine K_advK 1000 hk ?_
 intro a w ha hw cs
 obtain ⟨w', h1, h2⟩ := endRound_sat (P := P) none (hw.ent he)
 exact round_end hR.1.1 (hR.2 _ _ w' hp h2) fun c cs' => stepR_round_end (b := ({ (default : Frame) with fn := f, kind := .normal, roundOf := G.ro } : Frame)) hR.1.1 rfl h1
theorem K_roundRet {k0 : List Item} {F Hq : List HP} {Post : Value → List HP → Prop} (hR : EndsY R G l F Post) (hk : advK 1000 k0 = .mk (.code .ret :: k)) (he : Ent H (loopP l st pd f0 n0 L0 ps assign body r :: (Hq ++ F)))
  (hp : Post (.bool false) (loopP l .done (some .ret) f0 n0 L0 ps assign body r :: Hq)) : K P f n R G k0 L H := by
 refine K_advK 1000 hk ?_
 intro a w ha hw cs
 obtain ⟨w', h1, h2⟩ := endRound_sat (P := P) (some .ret) (hw.ent he)
 exact round_end hR.1.1 (hR.2 _ _ w' hp h2) fun c cs' => stepR_round_ret (b := ({ (default : Frame) with fn := f, kind := .normal, roundOf := G.ro } : Frame)) hR.1.1 rfl h1
theorem K_range {k0 : List Item} {g : Operand} {gid : FuncId} {cap : Array Value} {Pre : Nat → Nat → List HP} {Fr : List HP} {Post : Nat → Nat → Value → List HP → Prop} (hk : advK 1000 k0 = .mk (.code (.rangeFunc g ps assign body) :: k)) (hro : G.ro = none)
  (hg : ev L g = some (.func (.func gid) #[] cap))
  (c : ∀ l r, Ctr P gid (.func (.yield l) #[] #[] :: cap.toList) (loopP l .ready none f n L ps assign body r :: Pre l r) (Post l r)) (he : ∀ l r, Ent H (Pre l r ++ Fr))
  (hend : ∀ l r v H', Post l r v H' → ∃ st pd H'', H' = loopP l st pd f n L ps assign body r :: H'' ∧ st ≠ .busy ∧
   K P f n R { G with ds := r :: G.ds } ((pd.map Item.code).toList ++ k) L (H'' ++ (pts r (.deferred (some [])) :: Fr))) : K P f n R G k0 L H := by
 refine K_advK 1000 hk ?_
 intro a w ha hw cs
 let b : Frame := { (default : Frame) with fn := f, kind := .normal, roundOf := G.ro }
 have hen := run_enterLoop_outer (P := P) (w := w) f a.tmps ps assign body
 rw [← hro] at hen
 have hw1 : Sat G ((w.alloc (.deferred (some []))).alloc (.loop { state := .ready, pending := none, fn := f, tmps := a.tmps, params := ps, assign, body, defers := w.heap.size }))
   (loopP (w.heap.size + 1) .ready none f n L ps assign body w.heap.size :: (Pre (w.heap.size + 1) w.heap.size ++ (pts w.heap.size (.deferred (some [])) :: Fr))) := by
  have h1 := hw.alloc (.deferred (some []))
  have h2 := h1.alloc (.loop { state := .ready, pending := none, fn := f, tmps := a.tmps, params := ps, assign := assign, body := body, defers := w.heap.size })
  have hsz : ({ w with heap := w.heap.push (.deferred (some [])) } : World).heap.size = w.heap.size + 1 := by simp
  rw [hsz] at h2
  refine Sat.ent h2 ?_
  refine (loopP_put ⟨ha.1.1, ha.1.2.2⟩).trans (Ent.cons _ ?_)
  refine (Ent.cons _ (he (w.heap.size + 1) w.heap.size)).trans ?_
  exact Ent.perm (List.perm_middle.symm)
 have hres : (resolve a.eval (rangeCall g (w.heap.size + 1)) 0).run P ((w.alloc (.deferred (some []))).alloc (.loop { state := .ready, pending := none, fn := f, tmps := a.tmps, params := ps, assign, body, defers := w.heap.size })) = .ok { target := .fn (.func gid) cap, args := #[.func (.yield (w.heap.size + 1)) #[] #[]] } ((w.alloc (.deferred (some []))).alloc (.loop { state := .ready, pending := none, fn := f, tmps := a.tmps, params := ps, assign, body, defers := w.heap.size })) := by
  simp only [resolve, rangeCall, Sem.run_bind, ha.ev hg, Deferred.ofValue, Sem.run_pure, Result.andThen_ok]
  simp [Act.eval]
 have hinv : (invoke (.fn (.func gid) cap) #[.func (.yield (w.heap.size + 1)) #[] #[]]).run P ((w.alloc (.deferred (some []))).alloc (.loop { state := .ready, pending := none, fn := f, tmps := a.tmps, params := ps, assign, body, defers := w.heap.size })) = .ok (.enter gid (Value.func (.yield (w.heap.size + 1)) #[] #[] :: cap.toList).toArray) ((w.alloc (.deferred (some []))).alloc (.loop { state := .ready, pending := none, fn := f, tmps := a.tmps, params := ps, assign, body, defers := w.heap.size })) := by
  simp only [invoke]
  rw [run_callFunc (c (w.heap.size + 1) w.heap.size).1]
  congr 2
  apply Array.ext'; simp
 have henter := stepR_rangeFunc (P := P) (b := b) (a := a) (k := k) (cs := cs) (w := w) (ps := ps) (assign := assign) (body := body) (g := g) hen hres hinv
 obtain ⟨e, w3, fr, ⟨v, H', rfl, hpost, hs3⟩, hcomes, hfn, hleave⟩ := (c (w.heap.size + 1) w.heap.size).2 G _ (pts w.heap.size (.deferred (some [])) :: Fr) hw1 (b.atR { a with defers := [{ target := .collected w.heap.size, args := #[] }] ++ a.defers } (.inRangeFunc (w.heap.size + 1) :: k) :: cs)
 obtain ⟨st, pd, H'', rfl, hst, hK⟩ := hend _ _ _ _ hpost
 obtain ⟨tmps, ht, hs4⟩ := loopP_get (H := H'' ++ (pts w.heap.size (.deferred (some [])) :: Fr)) hs3
 have hg4 := hs4.get (i := 0) rfl
 have hend4 := run_endLoop (P := P) hg4 hst
 have hs5 := (hs4.set0 (o' := .loop { state := .exhausted, pending := pd, fn := f, tmps := tmps, params := ps, assign := assign, body := body, defers := w.heap.size })).ent (Ent.drop _ _)
 have hback : step P (lone fr (b.atR { a with defers := [{ target := .collected w.heap.size, args := #[] }] ++ a.defers } (.inRangeFunc (w.heap.size + 1) :: k) :: cs) w3) = .next (lone (b.atR { a with defers := [{ target := .collected w.heap.size, args := #[] }] ++ a.defers } (.endRangeFunc (w.heap.size + 1) :: k)) cs w3) := by
  rw [← finish_atR_inRangeFunc (w.heap.size + 1) v]; exact step_leave_returned hleave
 have hlast := stepR_endRangeFunc (P := P) (b := b) (a := { a with defers := [{ target := .collected w.heap.size, args := #[] }] ++ a.defers }) (k := k) (cs := cs) hend4
 have hok := hK { a with defers := [{ target := .collected w.heap.size, args := #[] }] ++ a.defers } _ ⟨⟨ha.1.1, trivial, ha.1.2.2⟩, by rw [show ({ G with ds := w.heap.size :: G.ds } : Glob).ds = w.heap.size :: G.ds from rfl, List.map_cons, ha.2]; rfl⟩ hs5 cs
 exact Owed.of_steps (Steps.trans (.one henter) (Steps.trans hcomes (Steps.trans (.one hback) (.one hlast)))) hok
variable {S : World → Prop} {all : Array Oper} {rest : Pl} {d : Tmp} {ty : TypeId} {pos : String} {af : Array Edge} {gd : Option (Nat × Bool)}
theorem J_yield {fo : Operand} {args : Array Operand} {tys : Array TypeId} {vs : List Value} {Pre Fr : List HP} {Post : Value → List HP → Prop} (hd : Nat.blt d n = true)
  (hf : ev L fo = some (.func (.yield l) #[] #[])) (hargs : evs L args.toList [] = .mk vs) (c : CtrY P l vs Pre Post) (he : Ent H (Pre ++ Fr))
  (h : ∀ v H', Post v H' → J P f n R G S all rest k ((d, v) :: L) (H' ++ Fr))
  (hS : ∀ v H' w, Post v H' → Sat G w (H' ++ Fr) → Sx rest S w) :
  J P f n R G S all (.cons false true ⟨some d, .call { callee := .value fo, args := args, argTypes := tys }, ty, pos, af, gd⟩ rest) k L H := by
 intro a w ha hw _
 refine .inl ⟨.inl rfl, .inr ⟨rfl, ?_⟩⟩
 obtain ⟨fn, tmps, asg, bdy, hy, hr⟩ := c G w Fr (hw.ent he)
 have hr1 : (execOp a.eval ⟨some d, .call { callee := .value fo, args := args, argTypes := tys }, ty, pos, af, gd⟩).run P w = .ok (.round l fn tmps asg bdy) w := by
  simp only [execOp, resolve, Sem.run_bind, ha.ev hf, Deferred.ofValue, Sem.run_pure, Result.andThen_ok, invoke]
  rw [evs_arr ha.1 _ _ hargs]
  simpa using hy
 refine wpIn_other (fun c hc => by cases hc) hr1 ⟨fun h => by simp [fw] at h, RoundIn.mono (hr G.ro) ?_⟩
 rintro e w' ⟨v, H', rfl, hpost, hw'⟩
 exact ⟨hS v H' w' hpost hw', h v H' hpost _ w' (ha.put hd v) hw' (hS v H' w' hpost hw')⟩
end
end Go.SL
/- files: the disk as plain data, what each call makes of it, and how it lies in memory. No program is named here but by the numbers of types that the memory's rows bear (parameters). -/
namespace Go.SL
theorem Ent.unsep (l H : List HP) : Ent (Sep l :: H) (l ++ H) := fun h hs => ⟨h, sub.refl h, Sep_append' hs⟩
theorem Ent.resep (l H : List HP) : Ent (l ++ H) (Sep l :: H) := fun h hs => ⟨h, sub.refl h, Sep_append hs⟩
/-! ## rows of bytes that nobody writes any more -/
abbrev Arrs := List (Nat × List Value)
def arrS (e : TypeId) (M : Arrs) : HP := Sep (M.map fun x => pts x.1 (cl x.2 e))
def BIn (M : Arrs) (v : Value) (bs : List UInt8) : Prop :=
 ∃ a cap, v = .slice a bs.length cap ∧ bs.length ≤ cap ∧ (bs = [] ∨ ∃ b o cs, a = Option.some ⟨b, o, none⟩ ∧ (b, cs) ∈ M ∧ (cs.drop o).take bs.length = bV bs)
theorem BIn.mono {M M' : Arrs} {v : Value} {bs : List UInt8} (h : BIn M v bs) (hs : ∀ x ∈ M, x ∈ M') : BIn M' v bs := by
 obtain ⟨a, cap, hv, hc, h0 | ⟨b, o, cs, ha, hm, ht⟩⟩ := h
 ·exact ⟨a, cap, hv, hc, .inl h0⟩
 ·exact ⟨a, cap, hv, hc, .inr ⟨b, o, cs, ha, hs _ hm, ht⟩⟩
theorem BIn.nil (M : Arrs) (a : Option Addr) (cap : Nat) : BIn M (.slice a 0 cap) [] := ⟨a, cap, rfl, Nat.zero_le _, .inl rfl⟩
theorem Sep_mem {l : List HP} {A : HP} {h : Hp} (hA : A ∈ l) (hs : Sep l h) : ∃ h', sub h' h ∧ A h' := by
 obtain ⟨i, hi⟩ := List.getElem?_of_mem hA
 exact star_left (Sep_perm (perm_of_get hi) h hs)
theorem BIn.view {M : Arrs} {v : Value} {bs : List UInt8} (h : BIn M v bs) (e : TypeId) : Vw (arrS e M) v bs.length (bV bs) := by
 obtain ⟨a, cap, rfl, _, h0 | ⟨b, o, cs, ha, hm, ht⟩⟩ := h
 ·subst h0; exact ⟨a, cap, rfl, .inl rfl⟩
 ·have h1 : Vw (pts b (cl cs e)) (.slice a bs.length cap) bs.length (bV bs) := by
   rw [ha]; exact Vw.pts (by rw [bV_length]; exact ht)
  refine h1.mono fun h hs => ?_
  exact Sep_mem (List.mem_map.2 ⟨(b, cs), hm, rfl⟩) hs
theorem BIn.shape {M : Arrs} {v : Value} {bs : List UInt8} (h : BIn M v bs) : ∃ a cap, v = .slice a bs.length cap ∧ bs.length ≤ cap := by
 obtain ⟨a, cap, hv, hc, _⟩ := h; exact ⟨a, cap, hv, hc⟩
theorem arrS_add (e : TypeId) (b : Nat) (cs : List Value) (M : Arrs) (H : List HP) : Ent (pts b (cl cs e) :: arrS e M :: H) (arrS e ((b, cs) :: M) :: H) :=
 Ent.fold (B := [_, _]) fun h hs => ⟨h, sub.refl h, star_mono (fun _ h => h) (fun _ h => Sep_one h) hs⟩
theorem BIn.row {M : Arrs} {b cap : Nat} {bs : List UInt8} (hc : bs.length ≤ cap) : BIn ((b, bV bs) :: M) (.slice (Option.some ⟨b, 0, none⟩) bs.length cap) bs :=
 ⟨_, cap, rfl, hc, .inr ⟨b, 0, bV bs, rfl, by simp, by rw [← bV_length]; simp⟩⟩
theorem arrS_slc (e : TypeId) (v : Value) (bs : List UInt8) (M : Arrs) : ∀ h, star (slc e 1 v bs.length (bV bs)) (arrS e M) h → ∃ M', BIn M' v bs ∧ (∀ x ∈ M, x ∈ M') ∧ arrS e M' h := by
 rintro h ⟨h1, h2, ⟨hl, ⟨a, rfl, hn, he⟩ | ⟨b, o, cap, pre, junk, rfl, hp, hn, hc, hpt⟩⟩, hM, hd, hj⟩
 ·have hb : bs = [] := List.eq_nil_of_length_eq_zero hn
  subst hb
  exact ⟨M, BIn.nil M a 0, fun _ h => h, emp_star ⟨h1, h2, he, hM, hd, hj⟩⟩
 ·refine ⟨(b, pre ++ bV bs ++ junk) :: M, ⟨_, cap, rfl, hn, .inr ⟨b, o, pre ++ bV bs ++ junk, rfl, by simp, ?_⟩⟩, fun x hx => by simp [hx], ⟨h1, h2, hpt, hM, hd, hj⟩⟩
  subst hp
  rw [List.append_assoc, List.drop_left, ← bV_length bs, List.take_left]
theorem BIn.tail {M : Arrs} {b o n cap : Nat} {x : UInt8} {bs : List UInt8} (h : BIn M (.slice (Option.some ⟨b, o, none⟩) n cap) (x :: bs)) (o' cap' : Nat) (h1 : bs ≠ [] → o' = o + 1) (hc' : bs.length ≤ cap') : BIn M (.slice (Option.some ⟨b, o', none⟩) bs.length cap') bs := by
 by_cases h0 : bs = []
 ·subst h0; exact BIn.nil _ _ _
 ·have := h1 h0
  subst this
  obtain ⟨a, cap2, hv, _, h2 | ⟨b', o2, cs, ha, hm, ht⟩⟩ := h
  ·cases h2
  ·simp only [Value.slice.injEq] at hv
   obtain ⟨rfl, _, rfl⟩ := hv
   simp only [Option.some.injEq, Addr.mk.injEq, and_true] at ha
   obtain ⟨rfl, rfl⟩ := ha
   refine ⟨_, cap', rfl, hc', .inr ⟨b, o + 1, cs, rfl, hm, ?_⟩⟩
   rw [List.length_cons] at ht
   rw [show o + 1 = 1 + o by omega, ← List.drop_drop]
   have h3 := congrArg (List.drop 1) ht
   rw [List.drop_take] at h3
   simpa [bV, Nat.add_comm] using h3
theorem BIn.piece {M : Arrs} {b o n cap : Nat} {bs : List UInt8} (h : BIn M (.slice (Option.some ⟨b, o, none⟩) n cap) bs) (o' cap' p k : Nat) (hpk : p + k ≤ bs.length) (h1 : k ≠ 0 → o' = o + p) (hc' : k ≤ cap') : BIn M (.slice (Option.some ⟨b, o', none⟩) k cap') ((bs.drop p).take k) := by
 have hl : ((bs.drop p).take k).length = k := by rw [List.length_take, List.length_drop]; omega
 by_cases h0 : k = 0
 ·subst h0; rw [List.take_zero]; exact BIn.nil _ _ _
 ·have := h1 h0
  subst this
  obtain ⟨a, cap2, hv, _, h2 | ⟨b', o2, cs, ha, hm, ht⟩⟩ := h
  ·subst h2; simp only [List.length_nil] at hpk; omega
  ·simp only [Value.slice.injEq] at hv
   obtain ⟨rfl, _, rfl⟩ := hv
   simp only [Option.some.injEq, Addr.mk.injEq, and_true] at ha
   obtain ⟨rfl, rfl⟩ := ha
   refine ⟨_, cap', by rw [hl], by rw [hl]; exact hc', .inr ⟨b, o + p, cs, rfl, hm, ?_⟩⟩
   rw [hl, ← List.drop_drop]
   have h3 := congrArg (fun l => (l.drop p).take k) ht
   simp only [List.drop_take, List.take_take] at h3
   rw [show min k (bs.length - p) = k by omega] at h3
   rw [h3]
   simp only [bV, List.map_drop, List.map_take]
theorem BIn.cut {M : Arrs} {a : Option Addr} {n cap : Nat} {bs : List UInt8} (h : BIn M (.slice a n cap) bs) (p k : Nat) (hpk : p + k ≤ bs.length) : BIn M (.slice (sliceAt a cap p 1) k (cap - p)) ((bs.drop p).take k) := by
 obtain ⟨a', cap', hv, hc, h0⟩ := h
 simp only [Value.slice.injEq] at hv
 obtain ⟨rfl, hn, rfl⟩ := hv
 by_cases hk : k = 0
 ·subst hk; rw [List.take_zero]; exact BIn.nil _ _ _
 ·rcases h0 with h0 | ⟨b, o, cs, rfl, hm, ht⟩
  ·subst h0; simp only [List.length_nil] at hpk; omega
  ·have e : sliceAt (Option.some ⟨b, o, none⟩) cap p 1 = Option.some ⟨b, o + p, none⟩ := by
    unfold sliceAt
    rw [if_neg (by omega), Option.map_some, Addr.add_eq, Nat.mul_one]
   rw [e]
   exact BIn.piece (o := o) (n := bs.length) (cap := cap) ⟨_, _, rfl, hc, .inr ⟨b, o, cs, rfl, hm, ht⟩⟩ _ _ p k hpk (fun _ => rfl) (by omega)
/-! ## stores: many assertions of one make, as one -/
def stock {α : Type} (g : α → HP) (l : List α) : HP := Sep (l.map g)
theorem stock_out {α : Type} (g : α → HP) {l : List α} {i : Nat} {x : α} (hi : l[i]? = Option.some x) (H : List HP) : Ent (stock g l :: H) (g x :: stock g (l.eraseIdx i) :: H) := fun h hs => by
 refine ⟨h, sub.refl h, star_assoc' (star_mono (fun h hs => ?_) (fun _ h => h) hs)⟩
 have h1 : (l.map g)[i]? = Option.some (g x) := by simp [hi]
 have h2 := Sep_perm (perm_of_get h1) h hs
 rw [← map_eraseIdx'] at h2
 exact h2
theorem stock_in {α : Type} (g : α → HP) {l : List α} {i : Nat} {x : α} (hi : l[i]? = Option.some x) (H : List HP) : Ent (g x :: stock g (l.eraseIdx i) :: H) (stock g l :: H) := fun h hs => by
 refine ⟨h, sub.refl h, star_mono (fun h hs => ?_) (fun _ h => h) (star_assoc hs)⟩
 have h1 : (l.map g)[i]? = Option.some (g x) := by simp [hi]
 refine Sep_perm (perm_of_get h1).symm h ?_
 rw [← map_eraseIdx']
 exact hs
theorem stock_set {α : Type} (g : α → HP) {l : List α} {i : Nat} {x y : α} (hi : l[i]? = Option.some x) (H : List HP) : Ent (g y :: stock g (l.eraseIdx i) :: H) (stock g (l.set i y) :: H) := by
 have hlt : i < l.length := by
  rcases Nat.lt_or_ge i l.length with h | h
  ·exact h
  ·rw [List.getElem?_eq_none h] at hi; cases hi
 have h1 : (l.set i y)[i]? = Option.some y := by simp [hlt]
 have h2 := stock_in g h1 H
 have h3 : (l.set i y).eraseIdx i = l.eraseIdx i := by
  clear hi h1 h2
  induction l generalizing i with
  | nil => simp
  | cons z l ih => cases i with
   | zero => simp
   | succ i => simp at hlt ⊢; exact ih hlt
 rw [h3] at h2
 exact h2
theorem stock_add {α : Type} (g : α → HP) (x : α) (l : List α) (H : List HP) : Ent (g x :: stock g l :: H) (stock g (x :: l) :: H) := fun h hs => ⟨h, sub.refl h, star_assoc hs⟩
theorem stock_mem {α : Type} {g : α → HP} {l : List α} {x : α} (hx : x ∈ l) {h : Hp} (hs : stock g l h) : ∃ h', sub h' h ∧ g x h' := Sep_mem (List.mem_map.2 ⟨x, hx, rfl⟩) hs
theorem arrS_nil (e : TypeId) (H : List HP) : Ent H (arrS e [] :: H) := Ent.addEmp H
theorem stock_nil {α : Type} (g : α → HP) (H : List HP) : Ent H (stock g [] :: H) := Ent.addEmp H
/-! ## the disk as plain data -/
structure Ab where
 room : Nat
 fs : List (Nat × List UInt8 × List UInt8)
 names : List (ByteArray × Nat)
 states : List (List (ByteArray × Nat))
 writes : List (Nat × Nat × List UInt8)
 plan : List UInt8
 off : Bool
namespace Ab
def meet (A : Ab) (may : Bool) : Nat × Ab :=
 if may = false then (1, A) else if A.off = true then (7, A) else match A.plan with
 | [] => (0, A)
 | x :: p => if x = 1 then (6, { A with plan := p }) else if x = 2 then (7, { A with plan := p, off := true }) else (0, { A with plan := p })
def lookIn (l : List (ByteArray × Nat)) (name : ByteArray) : Option Nat := (l.find? fun x => decide (x.1 = name)).map (·.2)
def look (A : Ab) (name : ByteArray) : Option Nat := lookIn A.names name
def file (A : Ab) (f : Nat) : List UInt8 × List UInt8 := ((A.fs.find? fun x => decide (x.1 = f)).map (·.2)).getD ([], [])
def now (A : Ab) (f : Nat) : List UInt8 := (A.file f).1
def sure (A : Ab) (f : Nat) : List UInt8 := (A.file f).2
def find (A : Ab) (name : ByteArray) (may : Bool) : Nat × Option Nat × Ab :=
 if (A.meet may).1 = 0 then match (A.meet may).2.look name with
  | none => (4, none, (A.meet may).2)
  | some f => (0, some f, (A.meet may).2)
 else ((A.meet may).1, none, (A.meet may).2)
def used (A : Ab) : Nat := (A.names.map fun x => (A.now x.2).length).sum
def new (room : Nat) : Ab := ⟨room, [], [], [[]], [], [], false⟩
def setN (l : List (ByteArray × Nat)) (k : ByteArray) (f : Nat) : List (ByteArray × Nat) := if (lookIn l k).isSome then l.map (fun x => if x.1 = k then (k, f) else x) else l ++ [(k, f)]
def delN (l : List (ByteArray × Nat)) (k : ByteArray) : List (ByteArray × Nat) := l.filter fun x => !decide (x.1 = k)
def chg (A : Ab) (nm : List (ByteArray × Nat)) : Ab := { A with names := nm, states := A.states ++ [nm] }
def create (A : Ab) (ok : Bool) (name : ByteArray) (f : Nat) : Nat × Ab :=
 if (A.meet ok).1 = 0 then
  if ((A.meet ok).2.look name).isSome then (5, (A.meet ok).2)
  else if 200 ≤ (A.meet ok).2.names.length then (3, (A.meet ok).2)
  else (0, { (A.meet ok).2.chg ((A.meet ok).2.names ++ [(name, f)]) with fs := (f, [], []) :: (A.meet ok).2.fs })
 else ((A.meet ok).1, (A.meet ok).2)
def remove (A : Ab) (ok : Bool) (name : ByteArray) : Nat × Ab := match A.find name ok with
 | (0, some _, A1) => (0, A1.chg (delN A1.names name))
 | (e, _, A1) => (e, A1)
def rename (A : Ab) (ok : Bool) (old name : ByteArray) : Nat × Ab := match A.find old ok with
 | (0, some f, A1) => (0, A1.chg (setN (delN A1.names old) name f))
 | (e, _, A1) => (e, A1)
def upd (fs : List (Nat × List UInt8 × List UInt8)) (f : Nat) (n : List UInt8) : List (Nat × List UInt8 × List UInt8) := fs.map fun x => if x.1 = f then (x.1, n, x.2.2) else x
def write (A : Ab) (ok : Bool) (name : ByteArray) (at_ : Nat) (b : List UInt8) : Nat × Ab :=
 if (A.find name ok).1 = 0 then match (A.find name ok).2.1 with
  | some f => if (A.find name ok).2.2.room < (A.find name ok).2.2.used + (at_ + b.length - ((A.find name ok).2.2.now f).length) then (3, (A.find name ok).2.2)
   else (0, { (A.find name ok).2.2 with fs := upd (A.find name ok).2.2.fs f (wroteL ((A.find name ok).2.2.now f) at_ b), writes := (A.find name ok).2.2.writes ++ [(f, at_, b)] })
  | none => (0, (A.find name ok).2.2)
 else ((A.find name ok).1, (A.find name ok).2.2)
def size (A : Ab) (name : ByteArray) : Nat × Nat := match A.look name with
 | none => (0, 4)
 | some f => ((A.now f).length, 0)
def read (A : Ab) (name : ByteArray) (at_ n : Int) : List UInt8 × Nat :=
 if A.off = true then ([], 7) else match A.look name with
  | none => ([], 4)
  | some f => if at_ < 0 ∨ n < 0 ∨ ((A.now f).length : Int) < at_ ∨ ((A.now f).length : Int) - at_ < n then ([], 1) else (((A.now f).drop at_.toNat).take n.toNat, 0)
def syncNames (A : Ab) : Nat × Ab := if (A.meet true).1 = 0 then (0, { (A.meet true).2 with states := [(A.meet true).2.names] }) else ((A.meet true).1, (A.meet true).2)
def updS (fs : List (Nat × List UInt8 × List UInt8)) (f : Nat) : List (Nat × List UInt8 × List UInt8) := fs.map fun x => if x.1 = f then (x.1, x.2.1, x.2.1) else x
def sync (A : Ab) (ok : Bool) (name : ByteArray) : Nat × Ab :=
 if (A.find name ok).1 = 0 then match (A.find name ok).2.1 with
  | some f => (0, { (A.find name ok).2.2 with fs := updS (A.find name ok).2.2.fs f, writes := (A.find name ok).2.2.writes.filter fun x => !decide (x.1 = f) })
  | none => (0, (A.find name ok).2.2)
 else ((A.find name ok).1, (A.find name ok).2.2)
def kept (stay : List UInt8) (torn cut : Int) (i : Nat) (b : List UInt8) : Option (List UInt8) :=
 if (i : Int) = torn then (let c := b.take (max 0 (min cut b.length)).toNat; if c = [] then none else some c)
 else if (i / 8 < stay.length ∧ ((stay.getD (i / 8) 0).toNat / 2 ^ (i % 8)) % 2 = 1) then some b else none
def updSure (fs : List (Nat × List UInt8 × List UInt8)) (f : Nat) (s : List UInt8) : List (Nat × List UInt8 × List UInt8) := fs.map fun x => if x.1 = f then (x.1, x.2.1, s) else x
def lasts (stay : List UInt8) (torn cut : Int) : Nat → List (Nat × Nat × List UInt8) → List (Nat × List UInt8 × List UInt8) → List (Nat × List UInt8 × List UInt8)
 | _, [], fs => fs
 | i, w :: ws, fs => match kept stay torn cut i w.2.2 with
  | none => lasts stay torn cut (i + 1) ws fs
  | some c => lasts stay torn cut (i + 1) ws (updSure fs w.1 (wroteL (((fs.find? fun x => decide (x.1 = w.1)).map (·.2)).getD ([], [])).2 w.2.1 c))
def reach (sts : List (List (ByteArray × Nat))) : List Nat := sts.flatMap fun st => st.map (·.2)
def crash (A : Ab) (last : Int) (stay : List UInt8) (torn cut : Int) : Ab :=
 let nm := A.states.getD (max 0 (min last (A.states.length - 1))).toNat []
 let fs := lasts stay torn cut 0 A.writes A.fs
 { A with names := nm, states := [nm], writes := [], plan := [], off := false, fs := fs.map fun x => if x.1 ∈ reach (A.states ++ [nm]) then (x.1, x.2.2, x.2.2) else x }
end Ab
end Go.SL
/- Engine, part O: copy of a part; parts of a view. Nothing here names a program. -/
namespace Go.SL
theorem Vw.front {A : HP} {b o n cap : Nat} {cs : List Value} (h : Vw A (.slice (Option.some ⟨b, o, none⟩) n cap) n cs) (i cap' q : Nat) : Vw A (.slice (Option.some ⟨b, o, none⟩) i cap') i (cs.take q) := by
 obtain ⟨a, cap2, hv, h0 | ⟨b', o', ha, hc⟩⟩ := h
 ·subst h0; exact ⟨_, cap', rfl, .inl (by simp)⟩
 ·simp only [Value.slice.injEq, true_and] at hv
  obtain ⟨rfl, _⟩ := hv
  simp only [Option.some.injEq, Addr.mk.injEq, and_true] at ha
  obtain ⟨rfl, rfl⟩ := ha
  refine ⟨_, cap', rfl, .inr ⟨b, o, rfl, fun h hA j c hj => ?_⟩⟩
  rw [List.getElem?_take] at hj
  split at hj
  ·exact hc h hA j c hj
  ·cases hj
theorem Vw.back {A : HP} {b o n cap : Nat} {cs : List Value} (h : Vw A (.slice (Option.some ⟨b, o, none⟩) n cap) n cs) (i cap' q : Nat) : Vw A (.slice (Option.some ⟨b, o + q, none⟩) i cap') i (cs.drop q) := by
 obtain ⟨a, cap2, hv, h0 | ⟨b', o', ha, hc⟩⟩ := h
 ·subst h0; exact ⟨_, cap', rfl, .inl (by simp)⟩
 ·simp only [Value.slice.injEq, true_and] at hv
  obtain ⟨rfl, _⟩ := hv
  simp only [Option.some.injEq, Addr.mk.injEq, and_true] at ha
  obtain ⟨rfl, rfl⟩ := ha
  refine ⟨_, cap', rfl, .inr ⟨b, o + q, rfl, fun h hA j c hj => ?_⟩⟩
  rw [List.getElem?_drop] at hj
  rw [Nat.add_assoc]
  exact hc h hA (q + j) c hj
theorem sliceAt_some (b o cap p sz : Nat) (h : p ≠ cap) : sliceAt (some ⟨b, o, none⟩) cap p sz = some ⟨b, o + p * sz, none⟩ := by
 unfold sliceAt; rw [if_neg h, Option.map_some, Addr.add_eq]
section
variable {P : Program} {U : Tr} [hU : TabOk P U] {f : FuncId} {n : Nat} {R : Ending → World → Prop} {G : Glob} {k : List Item} {L : Lst} {H H' : List HP} {S : World → Prop} {all : Array Oper} {rest : Pl}
 {ty : TypeId} {pos : String} {af : Array Edge} {gd : Option (Nat × Bool)} {m : Bool} {d : Tmp}
theorem sliceAt_zero (b o cap sz : Nat) : sliceAt (some ⟨b, o, none⟩) cap 0 sz = some ⟨b, o, none⟩ := by
 unfold sliceAt; split
 ·rfl
 ·rw [Option.map_some, Addr.add_eq]; simp
end
end Go.SL
/- Engine, part P: one cell of a row; stores turned round and cut; a slice cut short. Nothing here names a program. -/
namespace Go.SL
theorem Vw.cut0 {A : HP} {a : Option Addr} {n cap s : Nat} {cs : List Value} (h : Vw A (.slice a n cap) n cs) (k : Nat) : Vw A (.slice (sliceAt a cap 0 s) k cap) k (cs.take (k * s)) := by
 have h' := h
 obtain ⟨a', cap2, hv, h0 | ⟨b', o', ha, hc⟩⟩ := h
 ·subst h0; exact ⟨_, cap, rfl, .inl (by simp)⟩
 ·simp only [Value.slice.injEq, true_and] at hv
  obtain ⟨rfl, _⟩ := hv
  subst ha
  rw [sliceAt_zero]
  exact h'.front k cap (k * s)
theorem Vw.cutk {A : HP} {a : Option Addr} {n cap s : Nat} {cs : List Value} (h : Vw A (.slice a n cap) n cs) (hl : cs.length = n * s) (hn : n ≤ cap) (k : Nat) (hk : k ≤ n) : Vw A (.slice (sliceAt a cap k s) (n - k) (cap - k)) (n - k) (cs.drop (k * s)) := by
 have h' := h
 obtain ⟨a', cap2, hv, h0 | ⟨b', o', ha, hc⟩⟩ := h
 ·subst h0; exact ⟨_, _, rfl, .inl (by simp)⟩
 ·simp only [Value.slice.injEq, true_and] at hv
  obtain ⟨rfl, _⟩ := hv
  subst ha
  by_cases hkc : k = cap
  ·have : cs.drop (k * s) = [] := List.eq_nil_of_length_eq_zero (by rw [List.length_drop, hl, hkc, show n = cap from by omega]; omega)
   rw [this]; exact ⟨_, _, rfl, .inl rfl⟩
  ·rw [sliceAt_some _ _ _ _ _ hkc]
   exact h'.back (n - k) (cap - k) (k * s)
end Go.SL
/- The table of types of this seat's translation, as a tree (written by program: mktab.py), and that the program's own table says the same. -/
namespace Go.Proofs.YtpecmnaikjbanaaGreatDoor
open Go.SL
theorem tab1 : Tryz.prog.underlying 1 = some Tryz.t1.desc ∧ Tryz.prog.info? 1 = some Tryz.t1 := ⟨by kernel_rfl, by kernel_rfl⟩
theorem tab2 : Tryz.prog.underlying 2 = some Tryz.t2.desc ∧ Tryz.prog.info? 2 = some Tryz.t2 := ⟨by kernel_rfl, by kernel_rfl⟩
theorem tab3 : Tryz.prog.underlying 3 = some Tryz.t3.desc ∧ Tryz.prog.info? 3 = some Tryz.t3 := ⟨by kernel_rfl, by kernel_rfl⟩
theorem tab4 : Tryz.prog.underlying 4 = some Tryz.t4.desc ∧ Tryz.prog.info? 4 = some Tryz.t4 := ⟨by kernel_rfl, by kernel_rfl⟩
theorem tab5 : Tryz.prog.underlying 5 = some Tryz.t5.desc ∧ Tryz.prog.info? 5 = some Tryz.t5 := ⟨by kernel_rfl, by kernel_rfl⟩
theorem tab6 : Tryz.prog.underlying 6 = some Tryz.t5.desc ∧ Tryz.prog.info? 6 = some Tryz.t6 := ⟨by kernel_rfl, by kernel_rfl⟩
theorem tab7 : Tryz.prog.underlying 7 = some Tryz.t7.desc ∧ Tryz.prog.info? 7 = some Tryz.t7 := ⟨by kernel_rfl, by kernel_rfl⟩
theorem tab8 : Tryz.prog.underlying 8 = some Tryz.t7.desc ∧ Tryz.prog.info? 8 = some Tryz.t8 := ⟨by kernel_rfl, by kernel_rfl⟩
theorem tab9 : Tryz.prog.underlying 9 = some Tryz.t9.desc ∧ Tryz.prog.info? 9 = some Tryz.t9 := ⟨by kernel_rfl, by kernel_rfl⟩
theorem tab10 : Tryz.prog.underlying 10 = some Tryz.t9.desc ∧ Tryz.prog.info? 10 = some Tryz.t10 := ⟨by kernel_rfl, by kernel_rfl⟩
theorem tab11 : Tryz.prog.underlying 11 = some Tryz.t9.desc ∧ Tryz.prog.info? 11 = some Tryz.t11 := ⟨by kernel_rfl, by kernel_rfl⟩
theorem tab12 : Tryz.prog.underlying 12 = some Tryz.t12.desc ∧ Tryz.prog.info? 12 = some Tryz.t12 := ⟨by kernel_rfl, by kernel_rfl⟩
theorem tab13 : Tryz.prog.underlying 13 = some Tryz.t13.desc ∧ Tryz.prog.info? 13 = some Tryz.t13 := ⟨by kernel_rfl, by kernel_rfl⟩
theorem tab14 : Tryz.prog.underlying 14 = some Tryz.t13.desc ∧ Tryz.prog.info? 14 = some Tryz.t14 := ⟨by kernel_rfl, by kernel_rfl⟩
theorem tab15 : Tryz.prog.underlying 15 = some Tryz.t15.desc ∧ Tryz.prog.info? 15 = some Tryz.t15 := ⟨by kernel_rfl, by kernel_rfl⟩
theorem tab16 : Tryz.prog.underlying 16 = some Tryz.t16.desc ∧ Tryz.prog.info? 16 = some Tryz.t16 := ⟨by kernel_rfl, by kernel_rfl⟩
theorem tab17 : Tryz.prog.underlying 17 = some Tryz.t17.desc ∧ Tryz.prog.info? 17 = some Tryz.t17 := ⟨by kernel_rfl, by kernel_rfl⟩
theorem tab18 : Tryz.prog.underlying 18 = some Tryz.t18.desc ∧ Tryz.prog.info? 18 = some Tryz.t18 := ⟨by kernel_rfl, by kernel_rfl⟩
theorem tab19 : Tryz.prog.underlying 19 = some Tryz.t18.desc ∧ Tryz.prog.info? 19 = some Tryz.t19 := ⟨by kernel_rfl, by kernel_rfl⟩
theorem tab20 : Tryz.prog.underlying 20 = some Tryz.t20.desc ∧ Tryz.prog.info? 20 = some Tryz.t20 := ⟨by kernel_rfl, by kernel_rfl⟩
theorem tab21 : Tryz.prog.underlying 21 = some Tryz.t21.desc ∧ Tryz.prog.info? 21 = some Tryz.t21 := ⟨by kernel_rfl, by kernel_rfl⟩
theorem tab22 : Tryz.prog.underlying 22 = some Tryz.t22.desc ∧ Tryz.prog.info? 22 = some Tryz.t22 := ⟨by kernel_rfl, by kernel_rfl⟩
theorem tab23 : Tryz.prog.underlying 23 = some Tryz.t23.desc ∧ Tryz.prog.info? 23 = some Tryz.t23 := ⟨by kernel_rfl, by kernel_rfl⟩
theorem tab24 : Tryz.prog.underlying 24 = some Tryz.t24.desc ∧ Tryz.prog.info? 24 = some Tryz.t24 := ⟨by kernel_rfl, by kernel_rfl⟩
theorem tab25 : Tryz.prog.underlying 25 = some Tryz.t25.desc ∧ Tryz.prog.info? 25 = some Tryz.t25 := ⟨by kernel_rfl, by kernel_rfl⟩
theorem tab26 : Tryz.prog.underlying 26 = some Tryz.t3.desc ∧ Tryz.prog.info? 26 = some Tryz.t26 := ⟨by kernel_rfl, by kernel_rfl⟩
theorem tab28 : Tryz.prog.underlying 28 = some Tryz.t28.desc ∧ Tryz.prog.info? 28 = some Tryz.t28 := ⟨by kernel_rfl, by kernel_rfl⟩
theorem tab29 : Tryz.prog.underlying 29 = some Tryz.t29.desc ∧ Tryz.prog.info? 29 = some Tryz.t29 := ⟨by kernel_rfl, by kernel_rfl⟩
theorem tab30 : Tryz.prog.underlying 30 = some Tryz.t29.desc ∧ Tryz.prog.info? 30 = some Tryz.t30 := ⟨by kernel_rfl, by kernel_rfl⟩
theorem tab31 : Tryz.prog.underlying 31 = some Tryz.t31.desc ∧ Tryz.prog.info? 31 = some Tryz.t31 := ⟨by kernel_rfl, by kernel_rfl⟩
theorem tab32 : Tryz.prog.underlying 32 = some Tryz.t31.desc ∧ Tryz.prog.info? 32 = some Tryz.t32 := ⟨by kernel_rfl, by kernel_rfl⟩
theorem tab34 : Tryz.prog.underlying 34 = some Tryz.t34.desc ∧ Tryz.prog.info? 34 = some Tryz.t34 := ⟨by kernel_rfl, by kernel_rfl⟩
theorem tab35 : Tryz.prog.underlying 35 = some Tryz.t35.desc ∧ Tryz.prog.info? 35 = some Tryz.t35 := ⟨by kernel_rfl, by kernel_rfl⟩
theorem tab37 : Tryz.prog.underlying 37 = some Tryz.t37.desc ∧ Tryz.prog.info? 37 = some Tryz.t37 := ⟨by kernel_rfl, by kernel_rfl⟩
theorem tab38 : Tryz.prog.underlying 38 = some Tryz.t38.desc ∧ Tryz.prog.info? 38 = some Tryz.t38 := ⟨by kernel_rfl, by kernel_rfl⟩
theorem tab39 : Tryz.prog.underlying 39 = some Tryz.t39.desc ∧ Tryz.prog.info? 39 = some Tryz.t39 := ⟨by kernel_rfl, by kernel_rfl⟩
theorem tab40 : Tryz.prog.underlying 40 = some Tryz.t40.desc ∧ Tryz.prog.info? 40 = some Tryz.t40 := ⟨by kernel_rfl, by kernel_rfl⟩
theorem tab41 : Tryz.prog.underlying 41 = some Tryz.t41.desc ∧ Tryz.prog.info? 41 = some Tryz.t41 := ⟨by kernel_rfl, by kernel_rfl⟩
theorem tab43 : Tryz.prog.underlying 43 = some Tryz.t43.desc ∧ Tryz.prog.info? 43 = some Tryz.t43 := ⟨by kernel_rfl, by kernel_rfl⟩
theorem tab44 : Tryz.prog.underlying 44 = some Tryz.t44.desc ∧ Tryz.prog.info? 44 = some Tryz.t44 := ⟨by kernel_rfl, by kernel_rfl⟩
theorem tab45 : Tryz.prog.underlying 45 = some Tryz.t45.desc ∧ Tryz.prog.info? 45 = some Tryz.t45 := ⟨by kernel_rfl, by kernel_rfl⟩
theorem tab46 : Tryz.prog.underlying 46 = some Tryz.t46.desc ∧ Tryz.prog.info? 46 = some Tryz.t46 := ⟨by kernel_rfl, by kernel_rfl⟩
theorem tab47 : Tryz.prog.underlying 47 = some Tryz.t47.desc ∧ Tryz.prog.info? 47 = some Tryz.t47 := ⟨by kernel_rfl, by kernel_rfl⟩
theorem tab48 : Tryz.prog.underlying 48 = some Tryz.t48.desc ∧ Tryz.prog.info? 48 = some Tryz.t48 := ⟨by kernel_rfl, by kernel_rfl⟩
theorem tab49 : Tryz.prog.underlying 49 = some Tryz.t49.desc ∧ Tryz.prog.info? 49 = some Tryz.t49 := ⟨by kernel_rfl, by kernel_rfl⟩
theorem tab50 : Tryz.prog.underlying 50 = some Tryz.t50.desc ∧ Tryz.prog.info? 50 = some Tryz.t50 := ⟨by kernel_rfl, by kernel_rfl⟩
theorem tab51 : Tryz.prog.underlying 51 = some Tryz.t51.desc ∧ Tryz.prog.info? 51 = some Tryz.t51 := ⟨by kernel_rfl, by kernel_rfl⟩
theorem tab52 : Tryz.prog.underlying 52 = some Tryz.t51.desc ∧ Tryz.prog.info? 52 = some Tryz.t52 := ⟨by kernel_rfl, by kernel_rfl⟩
theorem tab53 : Tryz.prog.underlying 53 = some Tryz.t53.desc ∧ Tryz.prog.info? 53 = some Tryz.t53 := ⟨by kernel_rfl, by kernel_rfl⟩
theorem tab54 : Tryz.prog.underlying 54 = some Tryz.t54.desc ∧ Tryz.prog.info? 54 = some Tryz.t54 := ⟨by kernel_rfl, by kernel_rfl⟩
theorem tab55 : Tryz.prog.underlying 55 = some Tryz.t54.desc ∧ Tryz.prog.info? 55 = some Tryz.t55 := ⟨by kernel_rfl, by kernel_rfl⟩
theorem tab56 : Tryz.prog.underlying 56 = some Tryz.t56.desc ∧ Tryz.prog.info? 56 = some Tryz.t56 := ⟨by kernel_rfl, by kernel_rfl⟩
theorem tab57 : Tryz.prog.underlying 57 = some Tryz.t57.desc ∧ Tryz.prog.info? 57 = some Tryz.t57 := ⟨by kernel_rfl, by kernel_rfl⟩
theorem tab59 : Tryz.prog.underlying 59 = some Tryz.t59.desc ∧ Tryz.prog.info? 59 = some Tryz.t59 := ⟨by kernel_rfl, by kernel_rfl⟩
theorem tab60 : Tryz.prog.underlying 60 = some Tryz.t60.desc ∧ Tryz.prog.info? 60 = some Tryz.t60 := ⟨by kernel_rfl, by kernel_rfl⟩
theorem tab61 : Tryz.prog.underlying 61 = some Tryz.t61.desc ∧ Tryz.prog.info? 61 = some Tryz.t61 := ⟨by kernel_rfl, by kernel_rfl⟩
theorem tab62 : Tryz.prog.underlying 62 = some Tryz.t62.desc ∧ Tryz.prog.info? 62 = some Tryz.t62 := ⟨by kernel_rfl, by kernel_rfl⟩
theorem tab64 : Tryz.prog.underlying 64 = some Tryz.t64.desc ∧ Tryz.prog.info? 64 = some Tryz.t64 := ⟨by kernel_rfl, by kernel_rfl⟩
theorem tab65 : Tryz.prog.underlying 65 = some Tryz.t65.desc ∧ Tryz.prog.info? 65 = some Tryz.t65 := ⟨by kernel_rfl, by kernel_rfl⟩
theorem tab66 : Tryz.prog.underlying 66 = some Tryz.t66.desc ∧ Tryz.prog.info? 66 = some Tryz.t66 := ⟨by kernel_rfl, by kernel_rfl⟩
theorem tab67 : Tryz.prog.underlying 67 = some Tryz.t67.desc ∧ Tryz.prog.info? 67 = some Tryz.t67 := ⟨by kernel_rfl, by kernel_rfl⟩
theorem tab68 : Tryz.prog.underlying 68 = some Tryz.t68.desc ∧ Tryz.prog.info? 68 = some Tryz.t68 := ⟨by kernel_rfl, by kernel_rfl⟩
theorem tab69 : Tryz.prog.underlying 69 = some Tryz.t69.desc ∧ Tryz.prog.info? 69 = some Tryz.t69 := ⟨by kernel_rfl, by kernel_rfl⟩
theorem tab70 : Tryz.prog.underlying 70 = some Tryz.t70.desc ∧ Tryz.prog.info? 70 = some Tryz.t70 := ⟨by kernel_rfl, by kernel_rfl⟩
theorem tab71 : Tryz.prog.underlying 71 = some Tryz.t71.desc ∧ Tryz.prog.info? 71 = some Tryz.t71 := ⟨by kernel_rfl, by kernel_rfl⟩
theorem tab73 : Tryz.prog.underlying 73 = some Tryz.t73.desc ∧ Tryz.prog.info? 73 = some Tryz.t73 := ⟨by kernel_rfl, by kernel_rfl⟩
theorem tab74 : Tryz.prog.underlying 74 = some Tryz.t74.desc ∧ Tryz.prog.info? 74 = some Tryz.t74 := ⟨by kernel_rfl, by kernel_rfl⟩
theorem tab75 : Tryz.prog.underlying 75 = some Tryz.t75.desc ∧ Tryz.prog.info? 75 = some Tryz.t75 := ⟨by kernel_rfl, by kernel_rfl⟩
theorem tab76 : Tryz.prog.underlying 76 = some Tryz.t76.desc ∧ Tryz.prog.info? 76 = some Tryz.t76 := ⟨by kernel_rfl, by kernel_rfl⟩
theorem tab77 : Tryz.prog.underlying 77 = some Tryz.t77.desc ∧ Tryz.prog.info? 77 = some Tryz.t77 := ⟨by kernel_rfl, by kernel_rfl⟩
theorem tab78 : Tryz.prog.underlying 78 = some Tryz.t78.desc ∧ Tryz.prog.info? 78 = some Tryz.t78 := ⟨by kernel_rfl, by kernel_rfl⟩
theorem tab79 : Tryz.prog.underlying 79 = some Tryz.t79.desc ∧ Tryz.prog.info? 79 = some Tryz.t79 := ⟨by kernel_rfl, by kernel_rfl⟩
theorem tab80 : Tryz.prog.underlying 80 = some Tryz.t80.desc ∧ Tryz.prog.info? 80 = some Tryz.t80 := ⟨by kernel_rfl, by kernel_rfl⟩
theorem tab81 : Tryz.prog.underlying 81 = some Tryz.t80.desc ∧ Tryz.prog.info? 81 = some Tryz.t81 := ⟨by kernel_rfl, by kernel_rfl⟩
theorem tab82 : Tryz.prog.underlying 82 = some Tryz.t82.desc ∧ Tryz.prog.info? 82 = some Tryz.t82 := ⟨by kernel_rfl, by kernel_rfl⟩
theorem tab83 : Tryz.prog.underlying 83 = some Tryz.t83.desc ∧ Tryz.prog.info? 83 = some Tryz.t83 := ⟨by kernel_rfl, by kernel_rfl⟩
theorem tab84 : Tryz.prog.underlying 84 = some Tryz.t84.desc ∧ Tryz.prog.info? 84 = some Tryz.t84 := ⟨by kernel_rfl, by kernel_rfl⟩
theorem tab85 : Tryz.prog.underlying 85 = some Tryz.t84.desc ∧ Tryz.prog.info? 85 = some Tryz.t85 := ⟨by kernel_rfl, by kernel_rfl⟩
theorem tab87 : Tryz.prog.underlying 87 = some Tryz.t87.desc ∧ Tryz.prog.info? 87 = some Tryz.t87 := ⟨by kernel_rfl, by kernel_rfl⟩
theorem tab88 : Tryz.prog.underlying 88 = some Tryz.t88.desc ∧ Tryz.prog.info? 88 = some Tryz.t88 := ⟨by kernel_rfl, by kernel_rfl⟩
theorem tab89 : Tryz.prog.underlying 89 = some Tryz.t89.desc ∧ Tryz.prog.info? 89 = some Tryz.t89 := ⟨by kernel_rfl, by kernel_rfl⟩
theorem tab90 : Tryz.prog.underlying 90 = some Tryz.t90.desc ∧ Tryz.prog.info? 90 = some Tryz.t90 := ⟨by kernel_rfl, by kernel_rfl⟩
theorem tab91 : Tryz.prog.underlying 91 = some Tryz.t91.desc ∧ Tryz.prog.info? 91 = some Tryz.t91 := ⟨by kernel_rfl, by kernel_rfl⟩
theorem tab92 : Tryz.prog.underlying 92 = some Tryz.t91.desc ∧ Tryz.prog.info? 92 = some Tryz.t92 := ⟨by kernel_rfl, by kernel_rfl⟩
theorem tab93 : Tryz.prog.underlying 93 = some Tryz.t93.desc ∧ Tryz.prog.info? 93 = some Tryz.t93 := ⟨by kernel_rfl, by kernel_rfl⟩
theorem tab94 : Tryz.prog.underlying 94 = some Tryz.t94.desc ∧ Tryz.prog.info? 94 = some Tryz.t94 := ⟨by kernel_rfl, by kernel_rfl⟩
theorem tab95 : Tryz.prog.underlying 95 = some Tryz.t95.desc ∧ Tryz.prog.info? 95 = some Tryz.t95 := ⟨by kernel_rfl, by kernel_rfl⟩
theorem tab97 : Tryz.prog.underlying 97 = some Tryz.t97.desc ∧ Tryz.prog.info? 97 = some Tryz.t97 := ⟨by kernel_rfl, by kernel_rfl⟩
theorem tab98 : Tryz.prog.underlying 98 = some Tryz.t98.desc ∧ Tryz.prog.info? 98 = some Tryz.t98 := ⟨by kernel_rfl, by kernel_rfl⟩
theorem tab99 : Tryz.prog.underlying 99 = some Tryz.t99.desc ∧ Tryz.prog.info? 99 = some Tryz.t99 := ⟨by kernel_rfl, by kernel_rfl⟩
theorem tab100 : Tryz.prog.underlying 100 = some Tryz.t100.desc ∧ Tryz.prog.info? 100 = some Tryz.t100 := ⟨by kernel_rfl, by kernel_rfl⟩
theorem tab101 : Tryz.prog.underlying 101 = some Tryz.t101.desc ∧ Tryz.prog.info? 101 = some Tryz.t101 := ⟨by kernel_rfl, by kernel_rfl⟩
theorem tab103 : Tryz.prog.underlying 103 = some Tryz.t103.desc ∧ Tryz.prog.info? 103 = some Tryz.t103 := ⟨by kernel_rfl, by kernel_rfl⟩
theorem tab104 : Tryz.prog.underlying 104 = some Tryz.t104.desc ∧ Tryz.prog.info? 104 = some Tryz.t104 := ⟨by kernel_rfl, by kernel_rfl⟩
theorem tab105 : Tryz.prog.underlying 105 = some Tryz.t105.desc ∧ Tryz.prog.info? 105 = some Tryz.t105 := ⟨by kernel_rfl, by kernel_rfl⟩
theorem tab107 : Tryz.prog.underlying 107 = some Tryz.t107.desc ∧ Tryz.prog.info? 107 = some Tryz.t107 := ⟨by kernel_rfl, by kernel_rfl⟩
theorem tab109 : Tryz.prog.underlying 109 = some Tryz.t109.desc ∧ Tryz.prog.info? 109 = some Tryz.t109 := ⟨by kernel_rfl, by kernel_rfl⟩
theorem tab110 : Tryz.prog.underlying 110 = some Tryz.t110.desc ∧ Tryz.prog.info? 110 = some Tryz.t110 := ⟨by kernel_rfl, by kernel_rfl⟩
theorem tab111 : Tryz.prog.underlying 111 = some Tryz.t111.desc ∧ Tryz.prog.info? 111 = some Tryz.t111 := ⟨by kernel_rfl, by kernel_rfl⟩
theorem tab112 : Tryz.prog.underlying 112 = some Tryz.t112.desc ∧ Tryz.prog.info? 112 = some Tryz.t112 := ⟨by kernel_rfl, by kernel_rfl⟩
theorem tab113 : Tryz.prog.underlying 113 = some Tryz.t113.desc ∧ Tryz.prog.info? 113 = some Tryz.t113 := ⟨by kernel_rfl, by kernel_rfl⟩
theorem tab114 : Tryz.prog.underlying 114 = some Tryz.t114.desc ∧ Tryz.prog.info? 114 = some Tryz.t114 := ⟨by kernel_rfl, by kernel_rfl⟩
theorem tab115 : Tryz.prog.underlying 115 = some Tryz.t114.desc ∧ Tryz.prog.info? 115 = some Tryz.t115 := ⟨by kernel_rfl, by kernel_rfl⟩
theorem tab116 : Tryz.prog.underlying 116 = some Tryz.t116.desc ∧ Tryz.prog.info? 116 = some Tryz.t116 := ⟨by kernel_rfl, by kernel_rfl⟩
theorem tab117 : Tryz.prog.underlying 117 = some Tryz.t117.desc ∧ Tryz.prog.info? 117 = some Tryz.t117 := ⟨by kernel_rfl, by kernel_rfl⟩
theorem tab118 : Tryz.prog.underlying 118 = some Tryz.t118.desc ∧ Tryz.prog.info? 118 = some Tryz.t118 := ⟨by kernel_rfl, by kernel_rfl⟩
theorem tab119 : Tryz.prog.underlying 119 = some Tryz.t118.desc ∧ Tryz.prog.info? 119 = some Tryz.t119 := ⟨by kernel_rfl, by kernel_rfl⟩
theorem tab120 : Tryz.prog.underlying 120 = some Tryz.t120.desc ∧ Tryz.prog.info? 120 = some Tryz.t120 := ⟨by kernel_rfl, by kernel_rfl⟩
theorem tab121 : Tryz.prog.underlying 121 = some Tryz.t121.desc ∧ Tryz.prog.info? 121 = some Tryz.t121 := ⟨by kernel_rfl, by kernel_rfl⟩
theorem tab122 : Tryz.prog.underlying 122 = some Tryz.t122.desc ∧ Tryz.prog.info? 122 = some Tryz.t122 := ⟨by kernel_rfl, by kernel_rfl⟩
theorem tab123 : Tryz.prog.underlying 123 = some Tryz.t122.desc ∧ Tryz.prog.info? 123 = some Tryz.t123 := ⟨by kernel_rfl, by kernel_rfl⟩
theorem tab125 : Tryz.prog.underlying 125 = some Tryz.t125.desc ∧ Tryz.prog.info? 125 = some Tryz.t125 := ⟨by kernel_rfl, by kernel_rfl⟩
theorem tab126 : Tryz.prog.underlying 126 = some Tryz.t126.desc ∧ Tryz.prog.info? 126 = some Tryz.t126 := ⟨by kernel_rfl, by kernel_rfl⟩
theorem tab127 : Tryz.prog.underlying 127 = some Tryz.t127.desc ∧ Tryz.prog.info? 127 = some Tryz.t127 := ⟨by kernel_rfl, by kernel_rfl⟩
theorem tab128 : Tryz.prog.underlying 128 = some Tryz.t128.desc ∧ Tryz.prog.info? 128 = some Tryz.t128 := ⟨by kernel_rfl, by kernel_rfl⟩
theorem tab129 : Tryz.prog.underlying 129 = some Tryz.t129.desc ∧ Tryz.prog.info? 129 = some Tryz.t129 := ⟨by kernel_rfl, by kernel_rfl⟩
theorem tab130 : Tryz.prog.underlying 130 = some Tryz.t130.desc ∧ Tryz.prog.info? 130 = some Tryz.t130 := ⟨by kernel_rfl, by kernel_rfl⟩
theorem tab131 : Tryz.prog.underlying 131 = some Tryz.t131.desc ∧ Tryz.prog.info? 131 = some Tryz.t131 := ⟨by kernel_rfl, by kernel_rfl⟩
theorem tab132 : Tryz.prog.underlying 132 = some Tryz.t132.desc ∧ Tryz.prog.info? 132 = some Tryz.t132 := ⟨by kernel_rfl, by kernel_rfl⟩
theorem tab133 : Tryz.prog.underlying 133 = some Tryz.t133.desc ∧ Tryz.prog.info? 133 = some Tryz.t133 := ⟨by kernel_rfl, by kernel_rfl⟩
theorem tab134 : Tryz.prog.underlying 134 = some Tryz.t134.desc ∧ Tryz.prog.info? 134 = some Tryz.t134 := ⟨by kernel_rfl, by kernel_rfl⟩
theorem tab135 : Tryz.prog.underlying 135 = some Tryz.t135.desc ∧ Tryz.prog.info? 135 = some Tryz.t135 := ⟨by kernel_rfl, by kernel_rfl⟩
theorem tab136 : Tryz.prog.underlying 136 = some Tryz.t136.desc ∧ Tryz.prog.info? 136 = some Tryz.t136 := ⟨by kernel_rfl, by kernel_rfl⟩
theorem tab138 : Tryz.prog.underlying 138 = some Tryz.t138.desc ∧ Tryz.prog.info? 138 = some Tryz.t138 := ⟨by kernel_rfl, by kernel_rfl⟩
theorem tab139 : Tryz.prog.underlying 139 = some Tryz.t139.desc ∧ Tryz.prog.info? 139 = some Tryz.t139 := ⟨by kernel_rfl, by kernel_rfl⟩
theorem tab141 : Tryz.prog.underlying 141 = some Tryz.t141.desc ∧ Tryz.prog.info? 141 = some Tryz.t141 := ⟨by kernel_rfl, by kernel_rfl⟩
theorem tab142 : Tryz.prog.underlying 142 = some Tryz.t142.desc ∧ Tryz.prog.info? 142 = some Tryz.t142 := ⟨by kernel_rfl, by kernel_rfl⟩
theorem tab143 : Tryz.prog.underlying 143 = some Tryz.t143.desc ∧ Tryz.prog.info? 143 = some Tryz.t143 := ⟨by kernel_rfl, by kernel_rfl⟩
theorem tab144 : Tryz.prog.underlying 144 = some Tryz.t144.desc ∧ Tryz.prog.info? 144 = some Tryz.t144 := ⟨by kernel_rfl, by kernel_rfl⟩
theorem tab145 : Tryz.prog.underlying 145 = some Tryz.t145.desc ∧ Tryz.prog.info? 145 = some Tryz.t145 := ⟨by kernel_rfl, by kernel_rfl⟩
theorem tab146 : Tryz.prog.underlying 146 = some Tryz.t146.desc ∧ Tryz.prog.info? 146 = some Tryz.t146 := ⟨by kernel_rfl, by kernel_rfl⟩
theorem tab147 : Tryz.prog.underlying 147 = some Tryz.t147.desc ∧ Tryz.prog.info? 147 = some Tryz.t147 := ⟨by kernel_rfl, by kernel_rfl⟩
theorem tab148 : Tryz.prog.underlying 148 = some Tryz.t148.desc ∧ Tryz.prog.info? 148 = some Tryz.t148 := ⟨by kernel_rfl, by kernel_rfl⟩
theorem tab149 : Tryz.prog.underlying 149 = some Tryz.t148.desc ∧ Tryz.prog.info? 149 = some Tryz.t149 := ⟨by kernel_rfl, by kernel_rfl⟩
theorem tab150 : Tryz.prog.underlying 150 = some Tryz.t150.desc ∧ Tryz.prog.info? 150 = some Tryz.t150 := ⟨by kernel_rfl, by kernel_rfl⟩
theorem tab151 : Tryz.prog.underlying 151 = some Tryz.t151.desc ∧ Tryz.prog.info? 151 = some Tryz.t151 := ⟨by kernel_rfl, by kernel_rfl⟩
theorem tab152 : Tryz.prog.underlying 152 = some Tryz.t152.desc ∧ Tryz.prog.info? 152 = some Tryz.t152 := ⟨by kernel_rfl, by kernel_rfl⟩
theorem tab153 : Tryz.prog.underlying 153 = some Tryz.t153.desc ∧ Tryz.prog.info? 153 = some Tryz.t153 := ⟨by kernel_rfl, by kernel_rfl⟩
theorem tab154 : Tryz.prog.underlying 154 = some Tryz.t154.desc ∧ Tryz.prog.info? 154 = some Tryz.t154 := ⟨by kernel_rfl, by kernel_rfl⟩
theorem tab155 : Tryz.prog.underlying 155 = some Tryz.t155.desc ∧ Tryz.prog.info? 155 = some Tryz.t155 := ⟨by kernel_rfl, by kernel_rfl⟩
theorem tab157 : Tryz.prog.underlying 157 = some Tryz.t157.desc ∧ Tryz.prog.info? 157 = some Tryz.t157 := ⟨by kernel_rfl, by kernel_rfl⟩
theorem tab158 : Tryz.prog.underlying 158 = some Tryz.t158.desc ∧ Tryz.prog.info? 158 = some Tryz.t158 := ⟨by kernel_rfl, by kernel_rfl⟩
theorem tab159 : Tryz.prog.underlying 159 = some Tryz.t159.desc ∧ Tryz.prog.info? 159 = some Tryz.t159 := ⟨by kernel_rfl, by kernel_rfl⟩
theorem tab160 : Tryz.prog.underlying 160 = some Tryz.t160.desc ∧ Tryz.prog.info? 160 = some Tryz.t160 := ⟨by kernel_rfl, by kernel_rfl⟩
theorem tab161 : Tryz.prog.underlying 161 = some Tryz.t161.desc ∧ Tryz.prog.info? 161 = some Tryz.t161 := ⟨by kernel_rfl, by kernel_rfl⟩
theorem tab162 : Tryz.prog.underlying 162 = some Tryz.t162.desc ∧ Tryz.prog.info? 162 = some Tryz.t162 := ⟨by kernel_rfl, by kernel_rfl⟩
theorem tab163 : Tryz.prog.underlying 163 = some Tryz.t163.desc ∧ Tryz.prog.info? 163 = some Tryz.t163 := ⟨by kernel_rfl, by kernel_rfl⟩
theorem tab164 : Tryz.prog.underlying 164 = some Tryz.t164.desc ∧ Tryz.prog.info? 164 = some Tryz.t164 := ⟨by kernel_rfl, by kernel_rfl⟩
theorem tab165 : Tryz.prog.underlying 165 = some Tryz.t165.desc ∧ Tryz.prog.info? 165 = some Tryz.t165 := ⟨by kernel_rfl, by kernel_rfl⟩
theorem tab166 : Tryz.prog.underlying 166 = some Tryz.t166.desc ∧ Tryz.prog.info? 166 = some Tryz.t166 := ⟨by kernel_rfl, by kernel_rfl⟩
theorem tab167 : Tryz.prog.underlying 167 = some Tryz.t167.desc ∧ Tryz.prog.info? 167 = some Tryz.t167 := ⟨by kernel_rfl, by kernel_rfl⟩
theorem tab168 : Tryz.prog.underlying 168 = some Tryz.t130.desc ∧ Tryz.prog.info? 168 = some Tryz.t168 := ⟨by kernel_rfl, by kernel_rfl⟩
theorem tab169 : Tryz.prog.underlying 169 = some Tryz.t169.desc ∧ Tryz.prog.info? 169 = some Tryz.t169 := ⟨by kernel_rfl, by kernel_rfl⟩
theorem tab170 : Tryz.prog.underlying 170 = some Tryz.t170.desc ∧ Tryz.prog.info? 170 = some Tryz.t170 := ⟨by kernel_rfl, by kernel_rfl⟩
theorem tab171 : Tryz.prog.underlying 171 = some Tryz.t171.desc ∧ Tryz.prog.info? 171 = some Tryz.t171 := ⟨by kernel_rfl, by kernel_rfl⟩
theorem tab172 : Tryz.prog.underlying 172 = some Tryz.t172.desc ∧ Tryz.prog.info? 172 = some Tryz.t172 := ⟨by kernel_rfl, by kernel_rfl⟩
theorem tab173 : Tryz.prog.underlying 173 = some Tryz.t173.desc ∧ Tryz.prog.info? 173 = some Tryz.t173 := ⟨by kernel_rfl, by kernel_rfl⟩
theorem tab174 : Tryz.prog.underlying 174 = some Tryz.t174.desc ∧ Tryz.prog.info? 174 = some Tryz.t174 := ⟨by kernel_rfl, by kernel_rfl⟩
theorem tab176 : Tryz.prog.underlying 176 = some Tryz.t176.desc ∧ Tryz.prog.info? 176 = some Tryz.t176 := ⟨by kernel_rfl, by kernel_rfl⟩
theorem tab177 : Tryz.prog.underlying 177 = some Tryz.t177.desc ∧ Tryz.prog.info? 177 = some Tryz.t177 := ⟨by kernel_rfl, by kernel_rfl⟩
theorem tab178 : Tryz.prog.underlying 178 = some Tryz.t178.desc ∧ Tryz.prog.info? 178 = some Tryz.t178 := ⟨by kernel_rfl, by kernel_rfl⟩
theorem tab179 : Tryz.prog.underlying 179 = some Tryz.t179.desc ∧ Tryz.prog.info? 179 = some Tryz.t179 := ⟨by kernel_rfl, by kernel_rfl⟩
theorem tab180 : Tryz.prog.underlying 180 = some Tryz.t180.desc ∧ Tryz.prog.info? 180 = some Tryz.t180 := ⟨by kernel_rfl, by kernel_rfl⟩
theorem tab181 : Tryz.prog.underlying 181 = some Tryz.t181.desc ∧ Tryz.prog.info? 181 = some Tryz.t181 := ⟨by kernel_rfl, by kernel_rfl⟩
theorem tab182 : Tryz.prog.underlying 182 = some Tryz.t182.desc ∧ Tryz.prog.info? 182 = some Tryz.t182 := ⟨by kernel_rfl, by kernel_rfl⟩
theorem tab183 : Tryz.prog.underlying 183 = some Tryz.t182.desc ∧ Tryz.prog.info? 183 = some Tryz.t183 := ⟨by kernel_rfl, by kernel_rfl⟩
theorem tab184 : Tryz.prog.underlying 184 = some Tryz.t184.desc ∧ Tryz.prog.info? 184 = some Tryz.t184 := ⟨by kernel_rfl, by kernel_rfl⟩
theorem tab186 : Tryz.prog.underlying 186 = some Tryz.t186.desc ∧ Tryz.prog.info? 186 = some Tryz.t186 := ⟨by kernel_rfl, by kernel_rfl⟩
theorem tab187 : Tryz.prog.underlying 187 = some Tryz.t187.desc ∧ Tryz.prog.info? 187 = some Tryz.t187 := ⟨by kernel_rfl, by kernel_rfl⟩
theorem tab188 : Tryz.prog.underlying 188 = some Tryz.t188.desc ∧ Tryz.prog.info? 188 = some Tryz.t188 := ⟨by kernel_rfl, by kernel_rfl⟩
theorem tab189 : Tryz.prog.underlying 189 = some Tryz.t189.desc ∧ Tryz.prog.info? 189 = some Tryz.t189 := ⟨by kernel_rfl, by kernel_rfl⟩
theorem tab190 : Tryz.prog.underlying 190 = some Tryz.t190.desc ∧ Tryz.prog.info? 190 = some Tryz.t190 := ⟨by kernel_rfl, by kernel_rfl⟩
theorem tab191 : Tryz.prog.underlying 191 = some Tryz.t191.desc ∧ Tryz.prog.info? 191 = some Tryz.t191 := ⟨by kernel_rfl, by kernel_rfl⟩
theorem tab192 : Tryz.prog.underlying 192 = some Tryz.t191.desc ∧ Tryz.prog.info? 192 = some Tryz.t192 := ⟨by kernel_rfl, by kernel_rfl⟩
theorem tab193 : Tryz.prog.underlying 193 = some Tryz.t193.desc ∧ Tryz.prog.info? 193 = some Tryz.t193 := ⟨by kernel_rfl, by kernel_rfl⟩
theorem tab194 : Tryz.prog.underlying 194 = some Tryz.t194.desc ∧ Tryz.prog.info? 194 = some Tryz.t194 := ⟨by kernel_rfl, by kernel_rfl⟩
theorem tab195 : Tryz.prog.underlying 195 = some Tryz.t195.desc ∧ Tryz.prog.info? 195 = some Tryz.t195 := ⟨by kernel_rfl, by kernel_rfl⟩
theorem tab196 : Tryz.prog.underlying 196 = some Tryz.t195.desc ∧ Tryz.prog.info? 196 = some Tryz.t196 := ⟨by kernel_rfl, by kernel_rfl⟩
theorem tab197 : Tryz.prog.underlying 197 = some Tryz.t197.desc ∧ Tryz.prog.info? 197 = some Tryz.t197 := ⟨by kernel_rfl, by kernel_rfl⟩
theorem tab198 : Tryz.prog.underlying 198 = some Tryz.t198.desc ∧ Tryz.prog.info? 198 = some Tryz.t198 := ⟨by kernel_rfl, by kernel_rfl⟩
theorem tab199 : Tryz.prog.underlying 199 = some Tryz.t199.desc ∧ Tryz.prog.info? 199 = some Tryz.t199 := ⟨by kernel_rfl, by kernel_rfl⟩
theorem tab200 : Tryz.prog.underlying 200 = some Tryz.t3.desc ∧ Tryz.prog.info? 200 = some Tryz.t200 := ⟨by kernel_rfl, by kernel_rfl⟩
theorem tab202 : Tryz.prog.underlying 202 = some Tryz.t202.desc ∧ Tryz.prog.info? 202 = some Tryz.t202 := ⟨by kernel_rfl, by kernel_rfl⟩
theorem tab203 : Tryz.prog.underlying 203 = some Tryz.t203.desc ∧ Tryz.prog.info? 203 = some Tryz.t203 := ⟨by kernel_rfl, by kernel_rfl⟩
theorem tab204 : Tryz.prog.underlying 204 = some Tryz.t204.desc ∧ Tryz.prog.info? 204 = some Tryz.t204 := ⟨by kernel_rfl, by kernel_rfl⟩
theorem tab206 : Tryz.prog.underlying 206 = some Tryz.t206.desc ∧ Tryz.prog.info? 206 = some Tryz.t206 := ⟨by kernel_rfl, by kernel_rfl⟩
theorem tab207 : Tryz.prog.underlying 207 = some Tryz.t207.desc ∧ Tryz.prog.info? 207 = some Tryz.t207 := ⟨by kernel_rfl, by kernel_rfl⟩
theorem tab208 : Tryz.prog.underlying 208 = some Tryz.t208.desc ∧ Tryz.prog.info? 208 = some Tryz.t208 := ⟨by kernel_rfl, by kernel_rfl⟩
theorem tab209 : Tryz.prog.underlying 209 = some Tryz.t209.desc ∧ Tryz.prog.info? 209 = some Tryz.t209 := ⟨by kernel_rfl, by kernel_rfl⟩
theorem tab210 : Tryz.prog.underlying 210 = some Tryz.t210.desc ∧ Tryz.prog.info? 210 = some Tryz.t210 := ⟨by kernel_rfl, by kernel_rfl⟩
theorem tab211 : Tryz.prog.underlying 211 = some Tryz.t211.desc ∧ Tryz.prog.info? 211 = some Tryz.t211 := ⟨by kernel_rfl, by kernel_rfl⟩
theorem tab212 : Tryz.prog.underlying 212 = some Tryz.t212.desc ∧ Tryz.prog.info? 212 = some Tryz.t212 := ⟨by kernel_rfl, by kernel_rfl⟩
theorem tab213 : Tryz.prog.underlying 213 = some Tryz.t213.desc ∧ Tryz.prog.info? 213 = some Tryz.t213 := ⟨by kernel_rfl, by kernel_rfl⟩
theorem tab214 : Tryz.prog.underlying 214 = some Tryz.t214.desc ∧ Tryz.prog.info? 214 = some Tryz.t214 := ⟨by kernel_rfl, by kernel_rfl⟩
theorem tab215 : Tryz.prog.underlying 215 = some Tryz.t215.desc ∧ Tryz.prog.info? 215 = some Tryz.t215 := ⟨by kernel_rfl, by kernel_rfl⟩
theorem tab217 : Tryz.prog.underlying 217 = some Tryz.t217.desc ∧ Tryz.prog.info? 217 = some Tryz.t217 := ⟨by kernel_rfl, by kernel_rfl⟩
theorem tab218 : Tryz.prog.underlying 218 = some Tryz.t218.desc ∧ Tryz.prog.info? 218 = some Tryz.t218 := ⟨by kernel_rfl, by kernel_rfl⟩
theorem tab219 : Tryz.prog.underlying 219 = some Tryz.t219.desc ∧ Tryz.prog.info? 219 = some Tryz.t219 := ⟨by kernel_rfl, by kernel_rfl⟩
theorem tab220 : Tryz.prog.underlying 220 = some Tryz.t219.desc ∧ Tryz.prog.info? 220 = some Tryz.t220 := ⟨by kernel_rfl, by kernel_rfl⟩
theorem tab221 : Tryz.prog.underlying 221 = some Tryz.t221.desc ∧ Tryz.prog.info? 221 = some Tryz.t221 := ⟨by kernel_rfl, by kernel_rfl⟩
theorem tab222 : Tryz.prog.underlying 222 = some Tryz.t222.desc ∧ Tryz.prog.info? 222 = some Tryz.t222 := ⟨by kernel_rfl, by kernel_rfl⟩
theorem tab223 : Tryz.prog.underlying 223 = some Tryz.t128.desc ∧ Tryz.prog.info? 223 = some Tryz.t223 := ⟨by kernel_rfl, by kernel_rfl⟩
theorem tab224 : Tryz.prog.underlying 224 = some Tryz.t224.desc ∧ Tryz.prog.info? 224 = some Tryz.t224 := ⟨by kernel_rfl, by kernel_rfl⟩
theorem tab225 : Tryz.prog.underlying 225 = some Tryz.t225.desc ∧ Tryz.prog.info? 225 = some Tryz.t225 := ⟨by kernel_rfl, by kernel_rfl⟩
theorem tab226 : Tryz.prog.underlying 226 = some Tryz.t226.desc ∧ Tryz.prog.info? 226 = some Tryz.t226 := ⟨by kernel_rfl, by kernel_rfl⟩
theorem tab227 : Tryz.prog.underlying 227 = some Tryz.t227.desc ∧ Tryz.prog.info? 227 = some Tryz.t227 := ⟨by kernel_rfl, by kernel_rfl⟩
theorem tab228 : Tryz.prog.underlying 228 = some Tryz.t228.desc ∧ Tryz.prog.info? 228 = some Tryz.t228 := ⟨by kernel_rfl, by kernel_rfl⟩
theorem tab229 : Tryz.prog.underlying 229 = some Tryz.t229.desc ∧ Tryz.prog.info? 229 = some Tryz.t229 := ⟨by kernel_rfl, by kernel_rfl⟩
theorem tab230 : Tryz.prog.underlying 230 = some Tryz.t230.desc ∧ Tryz.prog.info? 230 = some Tryz.t230 := ⟨by kernel_rfl, by kernel_rfl⟩
theorem tab231 : Tryz.prog.underlying 231 = some Tryz.t231.desc ∧ Tryz.prog.info? 231 = some Tryz.t231 := ⟨by kernel_rfl, by kernel_rfl⟩
theorem tab232 : Tryz.prog.underlying 232 = some Tryz.t232.desc ∧ Tryz.prog.info? 232 = some Tryz.t232 := ⟨by kernel_rfl, by kernel_rfl⟩
theorem tab234 : Tryz.prog.underlying 234 = some Tryz.t234.desc ∧ Tryz.prog.info? 234 = some Tryz.t234 := ⟨by kernel_rfl, by kernel_rfl⟩
theorem tab235 : Tryz.prog.underlying 235 = some Tryz.t235.desc ∧ Tryz.prog.info? 235 = some Tryz.t235 := ⟨by kernel_rfl, by kernel_rfl⟩
theorem tab236 : Tryz.prog.underlying 236 = some Tryz.t236.desc ∧ Tryz.prog.info? 236 = some Tryz.t236 := ⟨by kernel_rfl, by kernel_rfl⟩
theorem tab237 : Tryz.prog.underlying 237 = some Tryz.t237.desc ∧ Tryz.prog.info? 237 = some Tryz.t237 := ⟨by kernel_rfl, by kernel_rfl⟩
theorem tab238 : Tryz.prog.underlying 238 = some Tryz.t237.desc ∧ Tryz.prog.info? 238 = some Tryz.t238 := ⟨by kernel_rfl, by kernel_rfl⟩
theorem tab239 : Tryz.prog.underlying 239 = some Tryz.t239.desc ∧ Tryz.prog.info? 239 = some Tryz.t239 := ⟨by kernel_rfl, by kernel_rfl⟩
theorem tab240 : Tryz.prog.underlying 240 = some Tryz.t240.desc ∧ Tryz.prog.info? 240 = some Tryz.t240 := ⟨by kernel_rfl, by kernel_rfl⟩
theorem tab241 : Tryz.prog.underlying 241 = some Tryz.t240.desc ∧ Tryz.prog.info? 241 = some Tryz.t241 := ⟨by kernel_rfl, by kernel_rfl⟩
theorem tab242 : Tryz.prog.underlying 242 = some Tryz.t5.desc ∧ Tryz.prog.info? 242 = some Tryz.t242 := ⟨by kernel_rfl, by kernel_rfl⟩
theorem tab243 : Tryz.prog.underlying 243 = some Tryz.t5.desc ∧ Tryz.prog.info? 243 = some Tryz.t243 := ⟨by kernel_rfl, by kernel_rfl⟩
theorem tab244 : Tryz.prog.underlying 244 = some Tryz.t244.desc ∧ Tryz.prog.info? 244 = some Tryz.t244 := ⟨by kernel_rfl, by kernel_rfl⟩
theorem tab245 : Tryz.prog.underlying 245 = some Tryz.t245.desc ∧ Tryz.prog.info? 245 = some Tryz.t245 := ⟨by kernel_rfl, by kernel_rfl⟩
theorem tab246 : Tryz.prog.underlying 246 = some Tryz.t21.desc ∧ Tryz.prog.info? 246 = some Tryz.t246 := ⟨by kernel_rfl, by kernel_rfl⟩
theorem tab247 : Tryz.prog.underlying 247 = some Tryz.t21.desc ∧ Tryz.prog.info? 247 = some Tryz.t247 := ⟨by kernel_rfl, by kernel_rfl⟩
theorem tab248 : Tryz.prog.underlying 248 = some Tryz.t248.desc ∧ Tryz.prog.info? 248 = some Tryz.t248 := ⟨by kernel_rfl, by kernel_rfl⟩
theorem tab249 : Tryz.prog.underlying 249 = some Tryz.t248.desc ∧ Tryz.prog.info? 249 = some Tryz.t249 := ⟨by kernel_rfl, by kernel_rfl⟩
theorem tab250 : Tryz.prog.underlying 250 = some Tryz.t250.desc ∧ Tryz.prog.info? 250 = some Tryz.t250 := ⟨by kernel_rfl, by kernel_rfl⟩
noncomputable def tab : Tr := (.node 128 ⟨Tryz.t128.desc, Tryz.t128⟩ (.node 64 ⟨Tryz.t64.desc, Tryz.t64⟩ (.node 30 ⟨Tryz.t29.desc, Tryz.t30⟩ (.node 15 ⟨Tryz.t15.desc, Tryz.t15⟩ (.node 8 ⟨Tryz.t7.desc, Tryz.t8⟩ (.node 4 ⟨Tryz.t4.desc, Tryz.t4⟩ (.node 2 ⟨Tryz.t2.desc, Tryz.t2⟩ (.node 1 ⟨Tryz.t1.desc, Tryz.t1⟩ .leaf .leaf) (.node 3 ⟨Tryz.t3.desc, Tryz.t3⟩ .leaf .leaf)) (.node 6 ⟨Tryz.t5.desc, Tryz.t6⟩ (.node 5 ⟨Tryz.t5.desc, Tryz.t5⟩ .leaf .leaf) (.node 7 ⟨Tryz.t7.desc, Tryz.t7⟩ .leaf .leaf))) (.node 12 ⟨Tryz.t12.desc, Tryz.t12⟩ (.node 10 ⟨Tryz.t9.desc, Tryz.t10⟩ (.node 9 ⟨Tryz.t9.desc, Tryz.t9⟩ .leaf .leaf) (.node 11 ⟨Tryz.t9.desc, Tryz.t11⟩ .leaf .leaf)) (.node 14 ⟨Tryz.t13.desc, Tryz.t14⟩ (.node 13 ⟨Tryz.t13.desc, Tryz.t13⟩ .leaf .leaf) .leaf))) (.node 22 ⟨Tryz.t22.desc, Tryz.t22⟩ (.node 19 ⟨Tryz.t18.desc, Tryz.t19⟩ (.node 17 ⟨Tryz.t17.desc, Tryz.t17⟩ (.node 16 ⟨Tryz.t16.desc, Tryz.t16⟩ .leaf .leaf) (.node 18 ⟨Tryz.t18.desc, Tryz.t18⟩ .leaf .leaf)) (.node 21 ⟨Tryz.t21.desc, Tryz.t21⟩ (.node 20 ⟨Tryz.t20.desc, Tryz.t20⟩ .leaf .leaf) .leaf)) (.node 26 ⟨Tryz.t3.desc, Tryz.t26⟩ (.node 24 ⟨Tryz.t24.desc, Tryz.t24⟩ (.node 23 ⟨Tryz.t23.desc, Tryz.t23⟩ .leaf .leaf) (.node 25 ⟨Tryz.t25.desc, Tryz.t25⟩ .leaf .leaf)) (.node 29 ⟨Tryz.t29.desc, Tryz.t29⟩ (.node 28 ⟨Tryz.t28.desc, Tryz.t28⟩ .leaf .leaf) .leaf)))) (.node 48 ⟨Tryz.t48.desc, Tryz.t48⟩ (.node 40 ⟨Tryz.t40.desc, Tryz.t40⟩ (.node 35 ⟨Tryz.t35.desc, Tryz.t35⟩ (.node 32 ⟨Tryz.t31.desc, Tryz.t32⟩ (.node 31 ⟨Tryz.t31.desc, Tryz.t31⟩ .leaf .leaf) (.node 34 ⟨Tryz.t34.desc, Tryz.t34⟩ .leaf .leaf)) (.node 38 ⟨Tryz.t38.desc, Tryz.t38⟩ (.node 37 ⟨Tryz.t37.desc, Tryz.t37⟩ .leaf .leaf) (.node 39 ⟨Tryz.t39.desc, Tryz.t39⟩ .leaf .leaf))) (.node 45 ⟨Tryz.t45.desc, Tryz.t45⟩ (.node 43 ⟨Tryz.t43.desc, Tryz.t43⟩ (.node 41 ⟨Tryz.t41.desc, Tryz.t41⟩ .leaf .leaf) (.node 44 ⟨Tryz.t44.desc, Tryz.t44⟩ .leaf .leaf)) (.node 47 ⟨Tryz.t47.desc, Tryz.t47⟩ (.node 46 ⟨Tryz.t46.desc, Tryz.t46⟩ .leaf .leaf) .leaf))) (.node 55 ⟨Tryz.t54.desc, Tryz.t55⟩ (.node 52 ⟨Tryz.t51.desc, Tryz.t52⟩ (.node 50 ⟨Tryz.t50.desc, Tryz.t50⟩ (.node 49 ⟨Tryz.t49.desc, Tryz.t49⟩ .leaf .leaf) (.node 51 ⟨Tryz.t51.desc, Tryz.t51⟩ .leaf .leaf)) (.node 54 ⟨Tryz.t54.desc, Tryz.t54⟩ (.node 53 ⟨Tryz.t53.desc, Tryz.t53⟩ .leaf .leaf) .leaf)) (.node 60 ⟨Tryz.t60.desc, Tryz.t60⟩ (.node 57 ⟨Tryz.t57.desc, Tryz.t57⟩ (.node 56 ⟨Tryz.t56.desc, Tryz.t56⟩ .leaf .leaf) (.node 59 ⟨Tryz.t59.desc, Tryz.t59⟩ .leaf .leaf)) (.node 62 ⟨Tryz.t62.desc, Tryz.t62⟩ (.node 61 ⟨Tryz.t61.desc, Tryz.t61⟩ .leaf .leaf) .leaf))))) (.node 95 ⟨Tryz.t95.desc, Tryz.t95⟩ (.node 80 ⟨Tryz.t80.desc, Tryz.t80⟩ (.node 73 ⟨Tryz.t73.desc, Tryz.t73⟩ (.node 68 ⟨Tryz.t68.desc, Tryz.t68⟩ (.node 66 ⟨Tryz.t66.desc, Tryz.t66⟩ (.node 65 ⟨Tryz.t65.desc, Tryz.t65⟩ .leaf .leaf) (.node 67 ⟨Tryz.t67.desc, Tryz.t67⟩ .leaf .leaf)) (.node 70 ⟨Tryz.t70.desc, Tryz.t70⟩ (.node 69 ⟨Tryz.t69.desc, Tryz.t69⟩ .leaf .leaf) (.node 71 ⟨Tryz.t71.desc, Tryz.t71⟩ .leaf .leaf))) (.node 77 ⟨Tryz.t77.desc, Tryz.t77⟩ (.node 75 ⟨Tryz.t75.desc, Tryz.t75⟩ (.node 74 ⟨Tryz.t74.desc, Tryz.t74⟩ .leaf .leaf) (.node 76 ⟨Tryz.t76.desc, Tryz.t76⟩ .leaf .leaf)) (.node 79 ⟨Tryz.t79.desc, Tryz.t79⟩ (.node 78 ⟨Tryz.t78.desc, Tryz.t78⟩ .leaf .leaf) .leaf))) (.node 88 ⟨Tryz.t88.desc, Tryz.t88⟩ (.node 84 ⟨Tryz.t84.desc, Tryz.t84⟩ (.node 82 ⟨Tryz.t82.desc, Tryz.t82⟩ (.node 81 ⟨Tryz.t80.desc, Tryz.t81⟩ .leaf .leaf) (.node 83 ⟨Tryz.t83.desc, Tryz.t83⟩ .leaf .leaf)) (.node 87 ⟨Tryz.t87.desc, Tryz.t87⟩ (.node 85 ⟨Tryz.t84.desc, Tryz.t85⟩ .leaf .leaf) .leaf)) (.node 92 ⟨Tryz.t91.desc, Tryz.t92⟩ (.node 90 ⟨Tryz.t90.desc, Tryz.t90⟩ (.node 89 ⟨Tryz.t89.desc, Tryz.t89⟩ .leaf .leaf) (.node 91 ⟨Tryz.t91.desc, Tryz.t91⟩ .leaf .leaf)) (.node 94 ⟨Tryz.t94.desc, Tryz.t94⟩ (.node 93 ⟨Tryz.t93.desc, Tryz.t93⟩ .leaf .leaf) .leaf)))) (.node 113 ⟨Tryz.t113.desc, Tryz.t113⟩ (.node 104 ⟨Tryz.t104.desc, Tryz.t104⟩ (.node 100 ⟨Tryz.t100.desc, Tryz.t100⟩ (.node 98 ⟨Tryz.t98.desc, Tryz.t98⟩ (.node 97 ⟨Tryz.t97.desc, Tryz.t97⟩ .leaf .leaf) (.node 99 ⟨Tryz.t99.desc, Tryz.t99⟩ .leaf .leaf)) (.node 103 ⟨Tryz.t103.desc, Tryz.t103⟩ (.node 101 ⟨Tryz.t101.desc, Tryz.t101⟩ .leaf .leaf) .leaf)) (.node 110 ⟨Tryz.t110.desc, Tryz.t110⟩ (.node 107 ⟨Tryz.t107.desc, Tryz.t107⟩ (.node 105 ⟨Tryz.t105.desc, Tryz.t105⟩ .leaf .leaf) (.node 109 ⟨Tryz.t109.desc, Tryz.t109⟩ .leaf .leaf)) (.node 112 ⟨Tryz.t112.desc, Tryz.t112⟩ (.node 111 ⟨Tryz.t111.desc, Tryz.t111⟩ .leaf .leaf) .leaf))) (.node 120 ⟨Tryz.t120.desc, Tryz.t120⟩ (.node 117 ⟨Tryz.t117.desc, Tryz.t117⟩ (.node 115 ⟨Tryz.t114.desc, Tryz.t115⟩ (.node 114 ⟨Tryz.t114.desc, Tryz.t114⟩ .leaf .leaf) (.node 116 ⟨Tryz.t116.desc, Tryz.t116⟩ .leaf .leaf)) (.node 119 ⟨Tryz.t118.desc, Tryz.t119⟩ (.node 118 ⟨Tryz.t118.desc, Tryz.t118⟩ .leaf .leaf) .leaf)) (.node 125 ⟨Tryz.t125.desc, Tryz.t125⟩ (.node 122 ⟨Tryz.t122.desc, Tryz.t122⟩ (.node 121 ⟨Tryz.t121.desc, Tryz.t121⟩ .leaf .leaf) (.node 123 ⟨Tryz.t122.desc, Tryz.t123⟩ .leaf .leaf)) (.node 127 ⟨Tryz.t127.desc, Tryz.t127⟩ (.node 126 ⟨Tryz.t126.desc, Tryz.t126⟩ .leaf .leaf) .leaf)))))) (.node 190 ⟨Tryz.t190.desc, Tryz.t190⟩ (.node 160 ⟨Tryz.t160.desc, Tryz.t160⟩ (.node 145 ⟨Tryz.t145.desc, Tryz.t145⟩ (.node 136 ⟨Tryz.t136.desc, Tryz.t136⟩ (.node 132 ⟨Tryz.t132.desc, Tryz.t132⟩ (.node 130 ⟨Tryz.t130.desc, Tryz.t130⟩ (.node 129 ⟨Tryz.t129.desc, Tryz.t129⟩ .leaf .leaf) (.node 131 ⟨Tryz.t131.desc, Tryz.t131⟩ .leaf .leaf)) (.node 134 ⟨Tryz.t134.desc, Tryz.t134⟩ (.node 133 ⟨Tryz.t133.desc, Tryz.t133⟩ .leaf .leaf) (.node 135 ⟨Tryz.t135.desc, Tryz.t135⟩ .leaf .leaf))) (.node 142 ⟨Tryz.t142.desc, Tryz.t142⟩ (.node 139 ⟨Tryz.t139.desc, Tryz.t139⟩ (.node 138 ⟨Tryz.t138.desc, Tryz.t138⟩ .leaf .leaf) (.node 141 ⟨Tryz.t141.desc, Tryz.t141⟩ .leaf .leaf)) (.node 144 ⟨Tryz.t144.desc, Tryz.t144⟩ (.node 143 ⟨Tryz.t143.desc, Tryz.t143⟩ .leaf .leaf) .leaf))) (.node 152 ⟨Tryz.t152.desc, Tryz.t152⟩ (.node 149 ⟨Tryz.t148.desc, Tryz.t149⟩ (.node 147 ⟨Tryz.t147.desc, Tryz.t147⟩ (.node 146 ⟨Tryz.t146.desc, Tryz.t146⟩ .leaf .leaf) (.node 148 ⟨Tryz.t148.desc, Tryz.t148⟩ .leaf .leaf)) (.node 151 ⟨Tryz.t151.desc, Tryz.t151⟩ (.node 150 ⟨Tryz.t150.desc, Tryz.t150⟩ .leaf .leaf) .leaf)) (.node 157 ⟨Tryz.t157.desc, Tryz.t157⟩ (.node 154 ⟨Tryz.t154.desc, Tryz.t154⟩ (.node 153 ⟨Tryz.t153.desc, Tryz.t153⟩ .leaf .leaf) (.node 155 ⟨Tryz.t155.desc, Tryz.t155⟩ .leaf .leaf)) (.node 159 ⟨Tryz.t159.desc, Tryz.t159⟩ (.node 158 ⟨Tryz.t158.desc, Tryz.t158⟩ .leaf .leaf) .leaf)))) (.node 174 ⟨Tryz.t174.desc, Tryz.t174⟩ (.node 167 ⟨Tryz.t167.desc, Tryz.t167⟩ (.node 164 ⟨Tryz.t164.desc, Tryz.t164⟩ (.node 162 ⟨Tryz.t162.desc, Tryz.t162⟩ (.node 161 ⟨Tryz.t161.desc, Tryz.t161⟩ .leaf .leaf) (.node 163 ⟨Tryz.t163.desc, Tryz.t163⟩ .leaf .leaf)) (.node 166 ⟨Tryz.t166.desc, Tryz.t166⟩ (.node 165 ⟨Tryz.t165.desc, Tryz.t165⟩ .leaf .leaf) .leaf)) (.node 171 ⟨Tryz.t171.desc, Tryz.t171⟩ (.node 169 ⟨Tryz.t169.desc, Tryz.t169⟩ (.node 168 ⟨Tryz.t130.desc, Tryz.t168⟩ .leaf .leaf) (.node 170 ⟨Tryz.t170.desc, Tryz.t170⟩ .leaf .leaf)) (.node 173 ⟨Tryz.t173.desc, Tryz.t173⟩ (.node 172 ⟨Tryz.t172.desc, Tryz.t172⟩ .leaf .leaf) .leaf))) (.node 182 ⟨Tryz.t182.desc, Tryz.t182⟩ (.node 179 ⟨Tryz.t179.desc, Tryz.t179⟩ (.node 177 ⟨Tryz.t177.desc, Tryz.t177⟩ (.node 176 ⟨Tryz.t176.desc, Tryz.t176⟩ .leaf .leaf) (.node 178 ⟨Tryz.t178.desc, Tryz.t178⟩ .leaf .leaf)) (.node 181 ⟨Tryz.t181.desc, Tryz.t181⟩ (.node 180 ⟨Tryz.t180.desc, Tryz.t180⟩ .leaf .leaf) .leaf)) (.node 187 ⟨Tryz.t187.desc, Tryz.t187⟩ (.node 184 ⟨Tryz.t184.desc, Tryz.t184⟩ (.node 183 ⟨Tryz.t182.desc, Tryz.t183⟩ .leaf .leaf) (.node 186 ⟨Tryz.t186.desc, Tryz.t186⟩ .leaf .leaf)) (.node 189 ⟨Tryz.t189.desc, Tryz.t189⟩ (.node 188 ⟨Tryz.t188.desc, Tryz.t188⟩ .leaf .leaf) .leaf))))) (.node 222 ⟨Tryz.t222.desc, Tryz.t222⟩ (.node 207 ⟨Tryz.t207.desc, Tryz.t207⟩ (.node 198 ⟨Tryz.t198.desc, Tryz.t198⟩ (.node 194 ⟨Tryz.t194.desc, Tryz.t194⟩ (.node 192 ⟨Tryz.t191.desc, Tryz.t192⟩ (.node 191 ⟨Tryz.t191.desc, Tryz.t191⟩ .leaf .leaf) (.node 193 ⟨Tryz.t193.desc, Tryz.t193⟩ .leaf .leaf)) (.node 196 ⟨Tryz.t195.desc, Tryz.t196⟩ (.node 195 ⟨Tryz.t195.desc, Tryz.t195⟩ .leaf .leaf) (.node 197 ⟨Tryz.t197.desc, Tryz.t197⟩ .leaf .leaf))) (.node 203 ⟨Tryz.t203.desc, Tryz.t203⟩ (.node 200 ⟨Tryz.t3.desc, Tryz.t200⟩ (.node 199 ⟨Tryz.t199.desc, Tryz.t199⟩ .leaf .leaf) (.node 202 ⟨Tryz.t202.desc, Tryz.t202⟩ .leaf .leaf)) (.node 206 ⟨Tryz.t206.desc, Tryz.t206⟩ (.node 204 ⟨Tryz.t204.desc, Tryz.t204⟩ .leaf .leaf) .leaf))) (.node 214 ⟨Tryz.t214.desc, Tryz.t214⟩ (.node 211 ⟨Tryz.t211.desc, Tryz.t211⟩ (.node 209 ⟨Tryz.t209.desc, Tryz.t209⟩ (.node 208 ⟨Tryz.t208.desc, Tryz.t208⟩ .leaf .leaf) (.node 210 ⟨Tryz.t210.desc, Tryz.t210⟩ .leaf .leaf)) (.node 213 ⟨Tryz.t213.desc, Tryz.t213⟩ (.node 212 ⟨Tryz.t212.desc, Tryz.t212⟩ .leaf .leaf) .leaf)) (.node 219 ⟨Tryz.t219.desc, Tryz.t219⟩ (.node 217 ⟨Tryz.t217.desc, Tryz.t217⟩ (.node 215 ⟨Tryz.t215.desc, Tryz.t215⟩ .leaf .leaf) (.node 218 ⟨Tryz.t218.desc, Tryz.t218⟩ .leaf .leaf)) (.node 221 ⟨Tryz.t221.desc, Tryz.t221⟩ (.node 220 ⟨Tryz.t219.desc, Tryz.t220⟩ .leaf .leaf) .leaf)))) (.node 237 ⟨Tryz.t237.desc, Tryz.t237⟩ (.node 229 ⟨Tryz.t229.desc, Tryz.t229⟩ (.node 226 ⟨Tryz.t226.desc, Tryz.t226⟩ (.node 224 ⟨Tryz.t224.desc, Tryz.t224⟩ (.node 223 ⟨Tryz.t128.desc, Tryz.t223⟩ .leaf .leaf) (.node 225 ⟨Tryz.t225.desc, Tryz.t225⟩ .leaf .leaf)) (.node 228 ⟨Tryz.t228.desc, Tryz.t228⟩ (.node 227 ⟨Tryz.t227.desc, Tryz.t227⟩ .leaf .leaf) .leaf)) (.node 234 ⟨Tryz.t234.desc, Tryz.t234⟩ (.node 231 ⟨Tryz.t231.desc, Tryz.t231⟩ (.node 230 ⟨Tryz.t230.desc, Tryz.t230⟩ .leaf .leaf) (.node 232 ⟨Tryz.t232.desc, Tryz.t232⟩ .leaf .leaf)) (.node 236 ⟨Tryz.t236.desc, Tryz.t236⟩ (.node 235 ⟨Tryz.t235.desc, Tryz.t235⟩ .leaf .leaf) .leaf))) (.node 244 ⟨Tryz.t244.desc, Tryz.t244⟩ (.node 241 ⟨Tryz.t240.desc, Tryz.t241⟩ (.node 239 ⟨Tryz.t239.desc, Tryz.t239⟩ (.node 238 ⟨Tryz.t237.desc, Tryz.t238⟩ .leaf .leaf) (.node 240 ⟨Tryz.t240.desc, Tryz.t240⟩ .leaf .leaf)) (.node 243 ⟨Tryz.t5.desc, Tryz.t243⟩ (.node 242 ⟨Tryz.t5.desc, Tryz.t242⟩ .leaf .leaf) .leaf)) (.node 248 ⟨Tryz.t248.desc, Tryz.t248⟩ (.node 246 ⟨Tryz.t21.desc, Tryz.t246⟩ (.node 245 ⟨Tryz.t245.desc, Tryz.t245⟩ .leaf .leaf) (.node 247 ⟨Tryz.t21.desc, Tryz.t247⟩ .leaf .leaf)) (.node 250 ⟨Tryz.t250.desc, Tryz.t250⟩ (.node 249 ⟨Tryz.t248.desc, Tryz.t249⟩ .leaf .leaf) .leaf)))))))
instance tabOk : TabOk Tryz.prog tab := ⟨⟨tab128, ⟨tab64, ⟨tab30, ⟨tab15, ⟨tab8, ⟨tab4, ⟨tab2, ⟨tab1, trivial, trivial⟩, ⟨tab3, trivial, trivial⟩⟩, ⟨tab6, ⟨tab5, trivial, trivial⟩, ⟨tab7, trivial, trivial⟩⟩⟩, ⟨tab12, ⟨tab10, ⟨tab9, trivial, trivial⟩, ⟨tab11, trivial, trivial⟩⟩, ⟨tab14, ⟨tab13, trivial, trivial⟩, trivial⟩⟩⟩, ⟨tab22, ⟨tab19, ⟨tab17, ⟨tab16, trivial, trivial⟩, ⟨tab18, trivial, trivial⟩⟩, ⟨tab21, ⟨tab20, trivial, trivial⟩, trivial⟩⟩, ⟨tab26, ⟨tab24, ⟨tab23, trivial, trivial⟩, ⟨tab25, trivial, trivial⟩⟩, ⟨tab29, ⟨tab28, trivial, trivial⟩, trivial⟩⟩⟩⟩, ⟨tab48, ⟨tab40, ⟨tab35, ⟨tab32, ⟨tab31, trivial, trivial⟩, ⟨tab34, trivial, trivial⟩⟩, ⟨tab38, ⟨tab37, trivial, trivial⟩, ⟨tab39, trivial, trivial⟩⟩⟩, ⟨tab45, ⟨tab43, ⟨tab41, trivial, trivial⟩, ⟨tab44, trivial, trivial⟩⟩, ⟨tab47, ⟨tab46, trivial, trivial⟩, trivial⟩⟩⟩, ⟨tab55, ⟨tab52, ⟨tab50, ⟨tab49, trivial, trivial⟩, ⟨tab51, trivial, trivial⟩⟩, ⟨tab54, ⟨tab53, trivial, trivial⟩, trivial⟩⟩, ⟨tab60, ⟨tab57, ⟨tab56, trivial, trivial⟩, ⟨tab59, trivial, trivial⟩⟩, ⟨tab62, ⟨tab61, trivial, trivial⟩, trivial⟩⟩⟩⟩⟩, ⟨tab95, ⟨tab80, ⟨tab73, ⟨tab68, ⟨tab66, ⟨tab65, trivial, trivial⟩, ⟨tab67, trivial, trivial⟩⟩, ⟨tab70, ⟨tab69, trivial, trivial⟩, ⟨tab71, trivial, trivial⟩⟩⟩, ⟨tab77, ⟨tab75, ⟨tab74, trivial, trivial⟩, ⟨tab76, trivial, trivial⟩⟩, ⟨tab79, ⟨tab78, trivial, trivial⟩, trivial⟩⟩⟩, ⟨tab88, ⟨tab84, ⟨tab82, ⟨tab81, trivial, trivial⟩, ⟨tab83, trivial, trivial⟩⟩, ⟨tab87, ⟨tab85, trivial, trivial⟩, trivial⟩⟩, ⟨tab92, ⟨tab90, ⟨tab89, trivial, trivial⟩, ⟨tab91, trivial, trivial⟩⟩, ⟨tab94, ⟨tab93, trivial, trivial⟩, trivial⟩⟩⟩⟩, ⟨tab113, ⟨tab104, ⟨tab100, ⟨tab98, ⟨tab97, trivial, trivial⟩, ⟨tab99, trivial, trivial⟩⟩, ⟨tab103, ⟨tab101, trivial, trivial⟩, trivial⟩⟩, ⟨tab110, ⟨tab107, ⟨tab105, trivial, trivial⟩, ⟨tab109, trivial, trivial⟩⟩, ⟨tab112, ⟨tab111, trivial, trivial⟩, trivial⟩⟩⟩, ⟨tab120, ⟨tab117, ⟨tab115, ⟨tab114, trivial, trivial⟩, ⟨tab116, trivial, trivial⟩⟩, ⟨tab119, ⟨tab118, trivial, trivial⟩, trivial⟩⟩, ⟨tab125, ⟨tab122, ⟨tab121, trivial, trivial⟩, ⟨tab123, trivial, trivial⟩⟩, ⟨tab127, ⟨tab126, trivial, trivial⟩, trivial⟩⟩⟩⟩⟩⟩, ⟨tab190, ⟨tab160, ⟨tab145, ⟨tab136, ⟨tab132, ⟨tab130, ⟨tab129, trivial, trivial⟩, ⟨tab131, trivial, trivial⟩⟩, ⟨tab134, ⟨tab133, trivial, trivial⟩, ⟨tab135, trivial, trivial⟩⟩⟩, ⟨tab142, ⟨tab139, ⟨tab138, trivial, trivial⟩, ⟨tab141, trivial, trivial⟩⟩, ⟨tab144, ⟨tab143, trivial, trivial⟩, trivial⟩⟩⟩, ⟨tab152, ⟨tab149, ⟨tab147, ⟨tab146, trivial, trivial⟩, ⟨tab148, trivial, trivial⟩⟩, ⟨tab151, ⟨tab150, trivial, trivial⟩, trivial⟩⟩, ⟨tab157, ⟨tab154, ⟨tab153, trivial, trivial⟩, ⟨tab155, trivial, trivial⟩⟩, ⟨tab159, ⟨tab158, trivial, trivial⟩, trivial⟩⟩⟩⟩, ⟨tab174, ⟨tab167, ⟨tab164, ⟨tab162, ⟨tab161, trivial, trivial⟩, ⟨tab163, trivial, trivial⟩⟩, ⟨tab166, ⟨tab165, trivial, trivial⟩, trivial⟩⟩, ⟨tab171, ⟨tab169, ⟨tab168, trivial, trivial⟩, ⟨tab170, trivial, trivial⟩⟩, ⟨tab173, ⟨tab172, trivial, trivial⟩, trivial⟩⟩⟩, ⟨tab182, ⟨tab179, ⟨tab177, ⟨tab176, trivial, trivial⟩, ⟨tab178, trivial, trivial⟩⟩, ⟨tab181, ⟨tab180, trivial, trivial⟩, trivial⟩⟩, ⟨tab187, ⟨tab184, ⟨tab183, trivial, trivial⟩, ⟨tab186, trivial, trivial⟩⟩, ⟨tab189, ⟨tab188, trivial, trivial⟩, trivial⟩⟩⟩⟩⟩, ⟨tab222, ⟨tab207, ⟨tab198, ⟨tab194, ⟨tab192, ⟨tab191, trivial, trivial⟩, ⟨tab193, trivial, trivial⟩⟩, ⟨tab196, ⟨tab195, trivial, trivial⟩, ⟨tab197, trivial, trivial⟩⟩⟩, ⟨tab203, ⟨tab200, ⟨tab199, trivial, trivial⟩, ⟨tab202, trivial, trivial⟩⟩, ⟨tab206, ⟨tab204, trivial, trivial⟩, trivial⟩⟩⟩, ⟨tab214, ⟨tab211, ⟨tab209, ⟨tab208, trivial, trivial⟩, ⟨tab210, trivial, trivial⟩⟩, ⟨tab213, ⟨tab212, trivial, trivial⟩, trivial⟩⟩, ⟨tab219, ⟨tab217, ⟨tab215, trivial, trivial⟩, ⟨tab218, trivial, trivial⟩⟩, ⟨tab221, ⟨tab220, trivial, trivial⟩, trivial⟩⟩⟩⟩, ⟨tab237, ⟨tab229, ⟨tab226, ⟨tab224, ⟨tab223, trivial, trivial⟩, ⟨tab225, trivial, trivial⟩⟩, ⟨tab228, ⟨tab227, trivial, trivial⟩, trivial⟩⟩, ⟨tab234, ⟨tab231, ⟨tab230, trivial, trivial⟩, ⟨tab232, trivial, trivial⟩⟩, ⟨tab236, ⟨tab235, trivial, trivial⟩, trivial⟩⟩⟩, ⟨tab244, ⟨tab241, ⟨tab239, ⟨tab238, trivial, trivial⟩, ⟨tab240, trivial, trivial⟩⟩, ⟨tab243, ⟨tab242, trivial, trivial⟩, trivial⟩⟩, ⟨tab248, ⟨tab246, ⟨tab245, trivial, trivial⟩, ⟨tab247, trivial, trivial⟩⟩, ⟨tab250, ⟨tab249, trivial, trivial⟩, trivial⟩⟩⟩⟩⟩⟩⟩⟩
theorem mixed : Tryz.prog.follows .mixedOrders = true := by kernel_rfl
theorem go {A B : Prop} (a : A) (h : Hold A → B := by (intro h; (repeat' (first | refine J_adv (U := tab) rfl ?_ | (refine J_isG ?_; first | refine J_guardT rfl rfl rfl rfl ?_ | refine J_guardF rfl rfl rfl rfl rfl rfl rfl ?_ | refine J_guardU rfl rfl rfl rfl rfl rfl ?_ | refine J_guardF0 rfl rfl rfl rfl rfl rfl ?_) | (refine J_isLoad ?_; first | refine J_load (U := tab) 0 rfl rfl rfl rfl rfl rfl ?_ | refine J_load (U := tab) 1 rfl rfl rfl rfl rfl rfl ?_ | refine J_load (U := tab) 2 rfl rfl rfl rfl rfl rfl ?_ | refine J_load (U := tab) 3 rfl rfl rfl rfl rfl rfl ?_ | refine J_load (U := tab) 4 rfl rfl rfl rfl rfl rfl ?_ | refine J_load (U := tab) 5 rfl rfl rfl rfl rfl rfl ?_ | refine J_loadH (U := tab) 0 rfl rfl rfl rfl rfl rfl ?_ | refine J_loadH (U := tab) 1 rfl rfl rfl rfl rfl rfl ?_ | refine J_loadH (U := tab) 2 rfl rfl rfl rfl rfl rfl ?_) | (refine J_isPick ?_; first | refine J_pickT rfl rfl rfl ?_ | refine J_pickF rfl rfl rfl ?_) | (refine J_isBin ?_; first | refine J_add rfl rfl rfl (by simp only [inK]; omega) ?_ | refine J_sub' rfl rfl rfl (by simp only [inK]; omega) ?_) | (refine J_isConv ?_; refine J_conv (U := tab) rfl rfl rfl rfl rfl rfl (by simp only [inK]; omega) ?_) | (refine J_isStore ?_; first | refine J_store (U := tab) 0 (fun _ _ => trivial) rfl rfl rfl rfl rfl rfl rfl rfl rfl ?_ | refine J_store (U := tab) 1 (fun _ _ => trivial) rfl rfl rfl rfl rfl rfl rfl rfl rfl ?_ | refine J_store (U := tab) 2 (fun _ _ => trivial) rfl rfl rfl rfl rfl rfl rfl rfl rfl ?_ | refine J_store (U := tab) 3 (fun _ _ => trivial) rfl rfl rfl rfl rfl rfl rfl rfl rfl ?_) | refine J_end ?_ | refine K_regionA rfl ?_ | refine K_condT rfl rfl ?_ | refine K_condF rfl rfl ?_)); exact h.out)) : B := h ⟨a⟩
theorem go1 {A B : Prop} (a : A) (h : Hold A → B := by (intro h; (first | refine J_adv (U := tab) rfl ?_ | (refine J_isG ?_; first | refine J_guardT rfl rfl rfl rfl ?_ | refine J_guardF rfl rfl rfl rfl rfl rfl rfl ?_ | refine J_guardU rfl rfl rfl rfl rfl rfl ?_ | refine J_guardF0 rfl rfl rfl rfl rfl rfl ?_) | (refine J_isLoad ?_; first | refine J_load (U := tab) 0 rfl rfl rfl rfl rfl rfl ?_ | refine J_load (U := tab) 1 rfl rfl rfl rfl rfl rfl ?_ | refine J_load (U := tab) 2 rfl rfl rfl rfl rfl rfl ?_ | refine J_load (U := tab) 3 rfl rfl rfl rfl rfl rfl ?_ | refine J_load (U := tab) 4 rfl rfl rfl rfl rfl rfl ?_ | refine J_load (U := tab) 5 rfl rfl rfl rfl rfl rfl ?_ | refine J_loadH (U := tab) 0 rfl rfl rfl rfl rfl rfl ?_ | refine J_loadH (U := tab) 1 rfl rfl rfl rfl rfl rfl ?_ | refine J_loadH (U := tab) 2 rfl rfl rfl rfl rfl rfl ?_) | (refine J_isPick ?_; first | refine J_pickT rfl rfl rfl ?_ | refine J_pickF rfl rfl rfl ?_) | (refine J_isBin ?_; first | refine J_add rfl rfl rfl (by simp only [inK]; omega) ?_ | refine J_sub' rfl rfl rfl (by simp only [inK]; omega) ?_) | (refine J_isConv ?_; refine J_conv (U := tab) rfl rfl rfl rfl rfl rfl (by simp only [inK]; omega) ?_) | (refine J_isStore ?_; first | refine J_store (U := tab) 0 (fun _ _ => trivial) rfl rfl rfl rfl rfl rfl rfl rfl rfl ?_ | refine J_store (U := tab) 1 (fun _ _ => trivial) rfl rfl rfl rfl rfl rfl rfl rfl rfl ?_ | refine J_store (U := tab) 2 (fun _ _ => trivial) rfl rfl rfl rfl rfl rfl rfl rfl rfl ?_ | refine J_store (U := tab) 3 (fun _ _ => trivial) rfl rfl rfl rfl rfl rfl rfl rfl rfl ?_) | refine J_end ?_ | refine K_regionA rfl ?_ | refine K_condT rfl rfl ?_ | refine K_condF rfl rfl ?_); (repeat' (first | refine J_adv (U := tab) rfl ?_ | (refine J_isG ?_; first | refine J_guardT rfl rfl rfl rfl ?_ | refine J_guardF rfl rfl rfl rfl rfl rfl rfl ?_ | refine J_guardU rfl rfl rfl rfl rfl rfl ?_ | refine J_guardF0 rfl rfl rfl rfl rfl rfl ?_) | (refine J_isLoad ?_; first | refine J_load (U := tab) 0 rfl rfl rfl rfl rfl rfl ?_ | refine J_load (U := tab) 1 rfl rfl rfl rfl rfl rfl ?_ | refine J_load (U := tab) 2 rfl rfl rfl rfl rfl rfl ?_ | refine J_load (U := tab) 3 rfl rfl rfl rfl rfl rfl ?_ | refine J_load (U := tab) 4 rfl rfl rfl rfl rfl rfl ?_ | refine J_load (U := tab) 5 rfl rfl rfl rfl rfl rfl ?_ | refine J_loadH (U := tab) 0 rfl rfl rfl rfl rfl rfl ?_ | refine J_loadH (U := tab) 1 rfl rfl rfl rfl rfl rfl ?_ | refine J_loadH (U := tab) 2 rfl rfl rfl rfl rfl rfl ?_) | (refine J_isPick ?_; first | refine J_pickT rfl rfl rfl ?_ | refine J_pickF rfl rfl rfl ?_) | (refine J_isBin ?_; first | refine J_add rfl rfl rfl (by simp only [inK]; omega) ?_ | refine J_sub' rfl rfl rfl (by simp only [inK]; omega) ?_) | (refine J_isConv ?_; refine J_conv (U := tab) rfl rfl rfl rfl rfl rfl (by simp only [inK]; omega) ?_) | (refine J_isStore ?_; first | refine J_store (U := tab) 0 (fun _ _ => trivial) rfl rfl rfl rfl rfl rfl rfl rfl rfl ?_ | refine J_store (U := tab) 1 (fun _ _ => trivial) rfl rfl rfl rfl rfl rfl rfl rfl rfl ?_ | refine J_store (U := tab) 2 (fun _ _ => trivial) rfl rfl rfl rfl rfl rfl rfl rfl rfl ?_ | refine J_store (U := tab) 3 (fun _ _ => trivial) rfl rfl rfl rfl rfl rfl rfl rfl rfl ?_) | refine J_end ?_ | refine K_regionA rfl ?_ | refine K_condT rfl rfl ?_ | refine K_condF rfl rfl ?_)); exact h.out)) : B := h ⟨a⟩
theorem goR {A B : Prop} (a : A) (h : Hold A → B := by (intro h; (repeat' (first | refine J_adv (U := tab) rfl ?_ | (refine J_isG ?_; first | refine J_guardT rfl rfl rfl rfl ?_ | refine J_guardF rfl rfl rfl rfl rfl rfl rfl ?_ | refine J_guardU rfl rfl rfl rfl rfl rfl ?_ | refine J_guardF0 rfl rfl rfl rfl rfl rfl ?_) | (refine J_isLoad ?_; first | refine J_load (U := tab) 0 rfl rfl rfl rfl rfl rfl ?_ | refine J_load (U := tab) 1 rfl rfl rfl rfl rfl rfl ?_ | refine J_load (U := tab) 2 rfl rfl rfl rfl rfl rfl ?_ | refine J_load (U := tab) 3 rfl rfl rfl rfl rfl rfl ?_ | refine J_load (U := tab) 4 rfl rfl rfl rfl rfl rfl ?_ | refine J_load (U := tab) 5 rfl rfl rfl rfl rfl rfl ?_ | refine J_loadH (U := tab) 0 rfl rfl rfl rfl rfl rfl ?_ | refine J_loadH (U := tab) 1 rfl rfl rfl rfl rfl rfl ?_ | refine J_loadH (U := tab) 2 rfl rfl rfl rfl rfl rfl ?_) | (refine J_isPick ?_; first | refine J_pickT rfl rfl rfl ?_ | refine J_pickF rfl rfl rfl ?_) | (refine J_isBin ?_; first | refine J_add rfl rfl rfl (by simp only [inK]; omega) ?_ | refine J_sub' rfl rfl rfl (by simp only [inK]; omega) ?_) | (refine J_isConv ?_; refine J_conv (U := tab) rfl rfl rfl rfl rfl rfl (by simp only [inK]; omega) ?_) | (refine J_isStore ?_; first | refine J_store (U := tab) 0 (fun _ _ => trivial) rfl rfl rfl rfl rfl rfl rfl rfl rfl ?_ | refine J_store (U := tab) 1 (fun _ _ => trivial) rfl rfl rfl rfl rfl rfl rfl rfl rfl ?_ | refine J_store (U := tab) 2 (fun _ _ => trivial) rfl rfl rfl rfl rfl rfl rfl rfl rfl ?_ | refine J_store (U := tab) 3 (fun _ _ => trivial) rfl rfl rfl rfl rfl rfl rfl rfl rfl ?_) | refine J_end ?_)); exact h.out)) : B := h ⟨a⟩
end Go.Proofs.YtpecmnaikjbanaaGreatDoor
/- tlv, part 0: bytes that are seen. -/
namespace Go.Proofs.YtpecmnaikjbanaaGreatDoor
open Go Go.SL
theorem bV_at {A : HP} {v : Value} {bs : List UInt8} (hv : Vw A v bs.length (bV bs)) (h : 0 < bs.length) : ∃ b o c, v = .slice (some ⟨b, o, none⟩) bs.length c := hv.some (by cases bs with
 | nil => simp at h
 | cons x l => simp [bV])
end Go.Proofs.YtpecmnaikjbanaaGreatDoor
