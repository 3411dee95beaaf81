/- Texts of one claim, joined: EngAr, EngT, EngT2, EngT3, Db, Dc, EngDk, Dd, Lt, EngT4, De, Hc. -/
import Derived.Test.YtpecmnaikjbanaaGreatDoorQBL3
import Derived.Test.YtpecmnaikjbanaaGreatDoorQBL4
import Derived.Test.YtpecmnaikjbanaaGreatDoorQBL5
import Derived.Test.YtpecmnaikjbanaaGreatDoorQBL6
import Derived.WideKeyRuns
/- Engine, part Ar: arrays of many cells; a number turned round. Nothing here names a program. -/
set_option linter.unusedSimpArgs false
set_option linter.unusedVariables false
set_option linter.unusedSectionVars false
namespace Go.SL
open Go
theorem allOne_wV (l : List W32) : allOne (wV l) = true := by
 induction l with
 | nil => rfl
 | cons x l ih =>
  show (Value.oneCell' (u32 x) && allOne (wV l)) = true
  rw [ih]; rfl
section
variable {P : Program} {U : Tr} [hU : TabOk P U] {f : FuncId} {n : Nat} {R : Ending → World → Prop} {G : Glob} {k : List Item} {L : Lst} {H H' : List HP} {S : World → Prop} {all : Array Oper} {rest : Pl}
 {ty : TypeId} {pos : String} {af : Array Edge} {gd : Option (Nat × Bool)} {m : Bool} {d : Tmp}
theorem J_negI {t : TypeId} {x : Operand} {j : IntKind} {p : Int} (hd : Nat.blt d n = true) (hx : ev L x = some (.int j p)) (hr : inK j (-p))
  (h : J P f n R G S all rest k ((d, .int j (-p)) :: L) H) : J P f n R G S all (.cons m true ⟨some d, .unOp .neg t x, ty, pos, af, gd⟩ rest) k L H :=
 J_pure hd (fun a ha w => by
  have e : j.wrap (0 - p) = -p := by rw [Int.zero_sub]; exact wrap_in hr
  simp only [execOp, ha.ev hx, Sem.run_bind, Result.andThen_ok, Op.unary, Op.intArith]
  simp
  simpa using e) h
theorem J_loadArr {t : TypeId} {x : Operand} {b : Nat} {ty' : Ty} {l : List Value} {e : TypeId} (i : Nat) (hd : Nat.blt d n = true) (hx : ev L x = some (.pointer (some ⟨b, 0, none⟩))) (hi : getL H i = some (pts b (cl l e)))
  (ht : U.get t = some ty') (hg : ty'.isAgg = true) (hl : l.length = ty'.info.size)
  (h : J P f n R G S all rest k ((d, .agg l.toArray) :: L) H) : J P f n R G S all (.cons false true ⟨some d, .load t x, ty, pos, af, gd⟩ rest) k L H :=
 J_loadAggC (U := U) hd hx ht hg (by rw [hl]; exact Nat.beq_refl _) (fun w hw j v hj => by rw [cell_of_block (hw.getP hi), Nat.zero_add]; exact hj) h
theorem J_loadArrS {Hs : List HP} {t : TypeId} {x : Operand} {b : Nat} {ty' : Ty} {l : List Value} {e : TypeId} (i : Nat) (hd : Nat.blt d n = true) (hx : ev L x = some (.pointer (some ⟨b, 0, none⟩))) (hi : getL Hs i = some (pts b (cl l e)))
  (ht : U.get t = some ty') (hg : ty'.isAgg = true) (hl : l.length = ty'.info.size)
  (h : J P f n R G (fun w => Sat G w Hs) all rest k ((d, .agg l.toArray) :: L) H) : J P f n R G (fun w => Sat G w Hs) all (.cons true true ⟨some d, .load t x, ty, pos, af, gd⟩ rest) k L H :=
 J_readS hd (fun a w ha hw => by
  have hw : Sat G w Hs := hw
  simp [execOp, ha.ev hx, run_loadAgg (P := P) ht hg hl (fun j v hj => by rw [cell_of_block (hw.getP hi), Nat.zero_add]; exact hj)]) h
theorem J_storeArr {t : TypeId} {x y : Operand} {b : Nat} {ty' : Ty} {l l' : List Value} {e : TypeId} (i : Nat) (hS : ∀ w, Sat G w H' → Sx rest S w)
  (hx : ev L x = some (.pointer (some ⟨b, 0, none⟩))) (hy : ev L y = some (.agg l'.toArray)) (ht : U.get t = some ty') (hsz : l'.length = ty'.info.size) (hne : l' ≠ []) (hone : allOne l' = true)
  (hi : getL H i = some (pts b (cl l e))) (hll : l.length = l'.length) (hp : putP i (pts b (cl l' e)) H [] = .mk H')
  (h : J P f n R G S all rest k L H') : J P f n R G S all (.cons false true ⟨none, .store t x y, ty, pos, af, gd⟩ rest) k L H := by
 have hc : cellsL (.agg l'.toArray) = l' := by simp [cellsL]
 refine J_storeRow (U := U) (l' := l') i hS hx hy ht (by rw [hc, hsz]; exact Nat.beq_refl _) (by rw [hc]; cases l' with | nil => exact absurd rfl hne | cons _ _ => rfl) (by rw [hc]; exact hone) hi (by rw [hc]; omega) (by rw [hc]; simp [hll]) hp h
theorem J_storeCell {t : TypeId} {x y : Operand} {b off : Nat} {ty' : Ty} {l : List Value} {u : Value} {e : TypeId} (i : Nat) (hS : ∀ w, Sat G w H' → Sx rest S w)
  (hx : ev L x = some (.pointer (some ⟨b, off, none⟩))) (hy : ev L y = some u) (ht : U.get t = some ty') (hsz : Nat.beq ty'.info.size 1 = true) (hc : cellsL u = [u]) (hone : allOne [u] = true)
  (hi : getL H i = some (pts b (cl l e))) (hq : off < l.length) (hp : putP i (pts b (cl (l.set off u) e)) H [] = .mk H')
  (h : J P f n R G S all rest k L H') : J P f n R G S all (.cons false true ⟨none, .store t x y, ty, pos, af, gd⟩ rest) k L H := by
 refine J_storeRow (U := U) (l' := l.set off u) i hS hx hy ht (by rw [hc, Nat.eq_of_beq_eq_true hsz]; rfl) (by rw [hc]; rfl) (by rw [hc]; exact hone) hi (by rw [hc]; simp; omega) ?_ hp h
 rw [hc, List.set_eq_take_append_cons_drop, if_pos hq]
 simp
theorem J_arrAt {t elem : TypeId} {ty' te : Ty} {x y : Operand} {j : IntKind} {b o len : Nat} {p : Int} (q : Nat) (hd : Nat.blt d n = true)
  (ht : U.get t = some ty') (hu : ty'.und = .array len elem) (he : U.get elem = some te) (hs : Nat.beq te.info.size 1 = true) (hx : ev L x = some (.pointer (some ⟨b, o, none⟩))) (hy : ev L y = some (.int j p)) (hq : p = (q : Int)) (hlt : q < len)
  (h : J P f n R G S all rest k ((d, .pointer (some ⟨b, o + q, none⟩)) :: L) H) : J P f n R G S all (.cons m true ⟨some d, .indexAddr t x y, ty, pos, af, gd⟩ rest) k L H := by
 subst hq
 refine J_indexArr hd ht hu he hx hy (by omega) (by omega) ?_
 rw [Nat.eq_of_beq_eq_true hs, Int.toNat_natCast, Nat.mul_one]
 exact h
theorem J_loadCell {t : TypeId} {x : Operand} {b off : Nat} {ty' : Ty} {l : List Value} {e : TypeId} {v : Value} (i q : Nat) (hd : Nat.blt d n = true)
  (hx : ev L x = some (.pointer (some ⟨b, off, none⟩))) (hi : getL H i = some (pts b (cl l e))) (hq : off = q) (hv : l[q]? = some v) (ht : U.get t = some ty') (hg : ty'.isAgg = false)
  (h : J P f n R G S all rest k ((d, v) :: L) H) : J P f n R G S all (.cons false true ⟨some d, .load t x, ty, pos, af, gd⟩ rest) k L H := by
 subst hq
 exact J_load (U := U) i hd hx hi (by rw [getL_eq]; exact hv) ht hg h
theorem J_loadCellS {Hs : List HP} {t : TypeId} {x : Operand} {b off : Nat} {ty' : Ty} {l : List Value} {e : TypeId} {v : Value} (i q : Nat) (hd : Nat.blt d n = true)
  (hx : ev L x = some (.pointer (some ⟨b, off, none⟩))) (hi : getL Hs i = some (pts b (cl l e))) (hq : off = q) (hv : l[q]? = some v) (ht : U.get t = some ty') (hg : ty'.isAgg = false)
  (h : J P f n R G (fun w => Sat G w Hs) all rest k ((d, v) :: L) H) : J P f n R G (fun w => Sat G w Hs) all (.cons true true ⟨some d, .load t x, ty, pos, af, gd⟩ rest) k L H := by
 subst hq
 exact J_loadH (U := U) i hd hx hi (by rw [getL_eq]; exact hv) ht hg h
theorem J_buildArr {t e : TypeId} {ty' te : Ty} {nn : Nat} {z : Array Value} {parts : Array (Nat × Operand)} {cs : List Value} (hd : Nat.blt d n = true) (ht : U.get t = some ty') (hu : ty'.und = .array nn e) (he : U.get e = some te) (hz : ty'.info.zero = some (.agg z))
  (hb : buildS L te.info.size z.toList parts.toList = .mk cs)
  (h : J P f n R G S all rest k ((d, .agg cs.toArray) :: L) H) : J P f n R G S all (.cons m true ⟨some d, .build t parts, ty, pos, af, gd⟩ rest) k L H := by
 have hrun : ∀ a w, Has n L a → (execOp a.eval ⟨some d, .build t parts, ty, pos, af, gd⟩).run P w = .ok (.value (.agg cs.toArray)) w := fun a w ha => by
  have hf := buildS_fill ha te.info.size parts.toList z.toList cs hb
  rw [Array.toArray_toList] at hf
  simp only [execOp, Instr.build, Sem.run_bind, run_zeroValue ht hz, run_underlying ht, Result.andThen_ok, hu, run_sizeOf he, Value.cells, Array.toList_map, hf, Sem.run_pure]
 cases m with
 | false => exact J_read hd (fun a w ha _ => hrun a w ha) h
 | true => exact J_readS hd (fun a w ha _ => hrun a w ha) h
end
end Go.SL
/- Engine, part T2: the end of a call both of whose results lie in cells, also behind ranges over functions. Nothing here names a program. -/
namespace Go.SL
open Go
theorem K_retW {P : Program} {f : FuncId} {n : Nat} {R : Ending → World → Prop} {G : Glob} {ds : List Nat} {k k0 : List Item} {L : Lst} {H H' : List HP} {fn : Func} {F : List HP} {Post : Value → List HP → Prop} {v : Value} {Hq : List HP}
  (hR : Ends R G F Post) (hf : P.funcs[f]? = some fn) (hk : advK 1000 k0 = .mk (.code .ret :: k)) (he : Ent H (ds.map (fun r => pts r (.deferred (some []))) ++ H'))
  (hres : ∀ a w, Has n L a → Sat { G with ds := ds } w H' → (results fn a.tmps).run P w = .ok v w) (hpost : Post v Hq) (he2 : Ent H' (Hq ++ F)) : K P f n R { G with ds := ds } k0 L H := by
 refine K_advK 1000 hk ?_
 intro a w ha hw cs
 have hro : ({ G with ds := ds } : Glob).ro = none := hR.1.1
 rw [hro]
 obtain ⟨w', hw', hs⟩ := leave_marks (P := P) ds { bf none f a (.code .ret :: k) with mode := .returning } cs w rfl ha.2 ⟨H', hw.ent he, rfl⟩
 exact ⟨_, w', _, hR.2 _ _ w' hpost (by have := hw'.ent he2; exact this), Steps.trans (.one (stepR_ret rfl)) hs, rfl, rfl, rfl, rfl, fn, hf, hres a w' ha.1 hw'⟩
theorem run_cell {P : Program} {U : Tr} [hU : TabOk P U] {n : Nat} {L : Lst} {a : Act} {p b : Nat} {t e : TypeId} {ty' : Ty} {u : Value} {G : Glob} {w : World} {H : List HP} (i : Nat) (ha : Has n L a) (hw : Sat G w H)
  (hp : fget L p = some (.pointer (some ⟨b, 0, none⟩))) (ht : U.get t = some ty') (hg : ty'.isAgg = false) (hi : getL H i = some (pts b (cl [u] e))) : (resF a.tmps (.cell p t)).run P w = .ok u w := by
 have hc : w.cell? ⟨b, 0, none⟩ = some u := by rw [cell_of_block (hw.getP hi)]; rfl
 have hld := run_loadAt (P := P) (w := w) ht hg hc
 have g1 : a.tmps.getD p undef = .pointer (some ⟨b, 0, none⟩) := by simp [Array.getD_eq_getD_getElem?, ha.2.2 p _ hp]
 simp only [resF, g1, asAddr, Sem.run_bind, Sem.run_pure, Result.andThen_ok]
 simpa [Instr.loadAt, Instr.sureAddr] using hld
theorem K_returnCC {P : Program} {U : Tr} [hU : TabOk P U] {f : FuncId} {n : Nat} {R : Ending → World → Prop} {G : Glob} {ds : List Nat} {k k0 : List Item} {L : Lst} {H H' : List HP} {fn : Func} {F : List HP} {Post : Value → List HP → Prop} {p q b1 b2 : Nat} {t1 t2 e1 e2 : TypeId} {ty1 ty2 : Ty} {u1 u2 : Value} {Hq : List HP} (i j : Nat)
  (hR : Ends R G F Post) (hf : P.funcs[f]? = some fn) (hk : advK 1000 k0 = .mk (.code .ret :: k)) (hfr : fn.results.toList = [.cell p t1, .cell q t2])
  (hp : fget L p = some (.pointer (some ⟨b1, 0, none⟩))) (hq : fget L q = some (.pointer (some ⟨b2, 0, none⟩))) (ht1 : U.get t1 = some ty1) (hg1 : ty1.isAgg = false) (ht2 : U.get t2 = some ty2) (hg2 : ty2.isAgg = false)
  (he : Ent H (ds.map (fun r => pts r (.deferred (some []))) ++ H')) (hi : getL H' i = some (pts b1 (cl [u1] e1))) (hj : getL H' j = some (pts b2 (cl [u2] e2))) (hpost : Post (.tuple #[u1, u2]) Hq) (he2 : Ent H' (Hq ++ F)) : K P f n R { G with ds := ds } k0 L H := by
 refine K_retW hR hf hk he (fun a w ha hw => ?_) hpost he2
 have h1 := run_cell (P := P) i ha hw hp ht1 hg1 hi
 have h2 := run_cell (P := P) j ha hw hq ht2 hg2 hj
 rw [results_eq, Array.mapM_eq_mapM_toList, hfr]
 simp only [Sem.run_bind, Sem.run_map, List.mapM_cons, List.mapM_nil, h1, h2, Sem.run_pure, Result.andThen_ok]
 simp
theorem K_noMarks {P : Program} {f : FuncId} {n : Nat} {R : Ending → World → Prop} {G : Glob} {k : List Item} {L : Lst} {H F : List HP} {Post : Value → List HP → Prop} (hE : Ends R G F Post) (h : K P f n R { G with ds := [] } k L H) : K P f n R G k L H := by
 have : ({ G with ds := [] } : Glob) = G := by have := hE.1.2; cases G; simp_all
 rw [this] at h
 exact h
theorem K_rangeP {P : Program} {f : FuncId} {n : Nat} {R : Ending → World → Prop} {G : Glob} {k : List Item} {L : Lst} {H : List HP} {ps : Array Tmp} {assign body : Code} {k0 : List Item} {g : Operand} {gid : FuncId} {cap : Array Value} {Pre : Nat → Nat → List HP} {Fr : List HP}
  (Post : Nat → Nat → (LoopState → Option Code → HP) → Value → List HP → Prop) (hk : advK 1000 k0 = .mk (.code (.rangeFunc g ps assign body) :: k)) (hro : G.ro = none)
  (hg : ev L g = some (.func (.func gid) #[] cap))
  (c : ∀ l r, Ctr P gid (.func (.yield l) #[] #[] :: cap.toList) (loopP l .ready none f n L ps assign body r :: Pre l r) (Post l r (fun st pd => loopP l st pd f n L ps assign body r))) (he : ∀ l r, Ent H (Pre l r ++ Fr))
  (hend : ∀ l r v H', Post l r (fun st pd => loopP l st pd f n L ps assign body r) v H' → ∃ st pd H'', H' = loopP l st pd f n L ps assign body r :: H'' ∧ st ≠ .busy ∧
   K P f n R { G with ds := r :: G.ds } ((pd.map Item.code).toList ++ k) L (H'' ++ (pts r (.deferred (some [])) :: Fr))) : K P f n R G k0 L H :=
 K_range hk hro hg c he hend
theorem K_slcVw {P : Program} {f : FuncId} {n : Nat} {R : Ending → World → Prop} {G : Glob} {k : List Item} {L : Lst} {H : List HP} {e : TypeId} {sz nn : Nat} {v : Value} {cs : List Value} (i : Nat) (hi : getL H i = some (slc e sz v nn cs))
  (h : Vw (slc e sz v nn cs) v nn cs → K P f n R G k L H) : K P f n R G k L H :=
 K_sat fun ⟨w, hw⟩ => by
  obtain ⟨h1, _, hA⟩ := hw.getA hi
  exact h (Vw.of_slc e sz v nn cs ⟨h1, hA⟩)
theorem slc_cap {e : TypeId} {sz nn c : Nat} {a : Option Addr} {cs : List Value} {h : Hp} (hs : slc e sz (.slice a nn c) nn cs h) : nn ≤ c := by
 obtain ⟨_, ⟨a', hv, hn, _⟩ | ⟨b, o, cap, pre, junk, hv, hp, hn, hc, _⟩⟩ := hs
 ·omega
 ·simp only [Value.slice.injEq] at hv; omega
theorem J_slcVC {P : Program} {f : FuncId} {n : Nat} {R : Ending → World → Prop} {G : Glob} {k : List Item} {L : Lst} {H : List HP} {S : World → Prop} {all : Array Oper} {rest : Pl} {e : TypeId} {sz nn c : Nat} {a : Option Addr} {cs : List Value} (i : Nat) (hi : getL H i = some (slc e sz (.slice a nn c) nn cs))
  (h : Vw (slc e sz (.slice a nn c) nn cs) (.slice a nn c) nn cs → nn ≤ c → J P f n R G S all rest k L H) : J P f n R G S all rest k L H :=
 J_sat fun w hw => by
  obtain ⟨h1, _, hA⟩ := hw.getA hi
  exact h (Vw.of_slc e sz _ nn cs ⟨h1, hA⟩) (slc_cap hA)
end Go.SL
/- Engine, part T3: the end of a call whose one result lies in a cell. Nothing here names a program. -/
namespace Go.SL
open Go
theorem run_cell1 {P : Program} {U : Tr} [hU : TabOk P U] {n : Nat} {G : Glob} {L : Lst} {H : List HP} {fn : Func} {p b : Nat} {t e : TypeId} {ty' : Ty} {cs : List Value} {a : Act} {w : World} (i : Nat) (ha : HasG G n L a) (hw : Sat G w H)
  (hfr : fn.results.toList = [.cell p t]) (hp : fget L p = some (.pointer (some ⟨b, 0, none⟩)))
  (ht : U.get t = some ty') (hg : ty'.isAgg = true) (hl : cs.length = ty'.info.size) (hi : getL H i = some (pts b (cl cs e))) : (results fn a.tmps).run P w = .ok (.agg cs.toArray) w := by
 have hc : ∀ j v, cs[j]? = some v → w.cell? ⟨b, 0 + j, none⟩ = some v := fun j v hj => by rw [cell_of_block (hw.getP hi), Nat.zero_add]; exact hj
 have hld := run_loadAgg (P := P) (w := w) ht hg hl hc
 have hld' : (loadVar t ⟨b, 0, none⟩).run P w = .ok (.agg cs.toArray) w := by simpa [Instr.loadAt, Instr.sureAddr] using hld
 have g1 : a.tmps.getD p undef = .pointer (some ⟨b, 0, none⟩) := by simp [Array.getD_eq_getD_getElem?, ha.get hp]
 rw [results_eq, Array.mapM_eq_mapM_toList, hfr]
 simp only [Sem.run_bind, Sem.run_map, List.mapM_cons, List.mapM_nil, resF, g1, asAddr, Sem.run_pure, Result.andThen_ok, hld']
 simp
theorem K_return1C {P : Program} {U : Tr} [hU : TabOk P U] {f : FuncId} {n : Nat} {R : Ending → World → Prop} {G : Glob} {k k0 : List Item} {L : Lst} {H : List HP} {fn : Func} {F : List HP} {Post : Value → List HP → Prop} {p b : Nat} {t e : TypeId} {ty' : Ty} {cs : List Value} (i : Nat)
  (hR : Ends R G F Post) (hf : P.funcs[f]? = some fn) (hk : advK 1000 k0 = .mk (.code .ret :: k)) (hfr : fn.results.toList = [.cell p t]) (hp : fget L p = some (.pointer (some ⟨b, 0, none⟩)))
  (ht : U.get t = some ty') (hg : ty'.isAgg = true) (hl : cs.length = ty'.info.size) (hi : getL H i = some (pts b (cl cs e))) {Hq : List HP}
  (hpost : Post (.agg cs.toArray) Hq) (he : Ent H (Hq ++ F)) : K P f n R G k0 L H := by
 refine K_advK 1000 hk ?_
 intro a w ha hw cs'
 have hrun := run_cell1 (P := P) i ha hw hfr hp ht hg hl hi
 rw [hR.1.1]
 exact ⟨_, w, _, hR.2 _ _ w hpost (hw.ent he), .one (stepR_ret rfl), rfl, rfl, by show a.defers = []; rw [ha.2, hR.1.2]; rfl, rfl, fn, hf, hrun⟩
end Go.SL
/- digest, part b: a word turned; the words of a chunk. -/
namespace Go.Proofs.YtpecmnaikjbanaaGreatDoor
open Go Go.SL
attribute [local irreducible] J K Ctr Ends pts slc mapR mapI sbRow stock arrS loopP CtrY
theorem rot_mask (n : Nat) (h1 : 1 ≤ n) (h2 : n ≤ 31) : IntKind.u64.wrap ((BitVec.ofInt IntKind.u64.bits (IntKind.u64.wrap (-(n : Int))) &&& BitVec.ofInt IntKind.u64.bits 31).toNat : Int) = ((32 - n : Nat) : Int) := by
 have : ∀ n : Nat, n < 32 → 1 ≤ n → IntKind.u64.wrap ((BitVec.ofInt 64 (IntKind.u64.wrap (-(n : Int))) &&& BitVec.ofInt 64 31).toNat : Int) = ((32 - n : Nat) : Int) := by decide
 exact this n (by omega) h1
theorem RotateLeft32_any (x : W32) (n : Nat) (h1 : 1 ≤ n) (h2 : n ≤ 31) : Ctr Tryz.prog 187 [u32 x, .int .i64 (-(n : Int))] [] (fun r H => r = u32 (Sha.rot x n) ∧ H = []) := by
 unfold u32
 refine Ctr.enter Tryz.func187 (by kernel_rfl) rfl Tryz.ntmps187 rfl rfl ?_
 intro G F R hE
 refine go ?_
 refine J_isConv ?_
 refine J_convW (U := tab) rfl rfl rfl rfl rfl rfl ?_
 (refine goR ?_)
 (first | refine J_slot 5 ((.int .u64 ((32 - n : Nat) : Int))) rfl ((congrArg (Value.int .u64) (rot_mask n h1 h2))) ?_ | refine K_slot 5 ((.int .u64 ((32 - n : Nat) : Int))) rfl ((congrArg (Value.int .u64) (rot_mask n h1 h2))) ?_)
 refine go ?_
 refine J_shlU (32 - n) rfl rfl rfl rfl (by omega) ?_
 (repeat (first | refine go1 ?_ | refine J_fork ?_ ?_ | refine J_shrU n rfl rfl rfl (by omega) (by omega) ?_ | refine J_orU rfl rfl rfl ?_))
 (first | refine K_return hE Tryz.func187 rfl _ rfl ⟨rfl, rfl⟩ entA | refine K_fallEnd hE Tryz.func187 rfl _ rfl ⟨rfl, rfl⟩ entA)
theorem turn_any (x : W32) (n : Nat) (h1 : 1 ≤ n) (h2 : n ≤ 31) : Ctr Tryz.prog 157 [u32 x, .int .i64 (n : Int)] [] (fun r H => r = u32 (Sha.rot x n) ∧ H = []) := by
 refine Ctr.enter Tryz.func157 (by kernel_rfl) rfl Tryz.ntmps157 rfl rfl ?_
 intro G F R hE
 refine go ?_
 refine J_negI rfl rfl (by simp only [inK]; omega) ?_
 ((try refine go ?_); first | refine J_callE rfl rfl rfl rfl (RotateLeft32_any x n h1 h2) entA ?_ (fun _ _ _ _ _ => trivial) | refine J_call0E rfl rfl rfl (RotateLeft32_any x n h1 h2) entA ?_ (fun _ _ _ _ _ => trivial))
 rintro _ _ ⟨rfl, rfl⟩
 refine go ?_
 (first | refine K_return hE Tryz.func157 rfl _ rfl ⟨rfl, rfl⟩ entA | refine K_fallEnd hE Tryz.func157 rfl _ rfl ⟨rfl, rfl⟩ entA)
set_option maxRecDepth 20000 in
theorem spread_any (A : HP) (v : Value) (b : List UInt8) (hv : BAt A v b) (h64 : 64 ≤ b.length) :
  Ctr Tryz.prog 156 [v] [A] (fun r H => r = .agg (wV (Sha.sched b 64)).toArray ∧ H = [A]) := by
 obtain ⟨a, c, rfl, hc⟩ := hv.2
 have hf := hv.front 64 h64
 refine Ctr.enter Tryz.func156 (by kernel_rfl) rfl Tryz.ntmps156 rfl rfl ?_
 intro G F R hE
 refine K_regionA rfl ?_
 refine J_alloc (U := tab) rfl rfl rfl (fun _ _ _ => trivial) ?_
 intro b2
 (refine goR ?_)
 (refine K_regionA rfl ?_; refine goR ?_)
 refine J_alloc (U := tab) rfl rfl rfl (fun _ _ _ => trivial) ?_
 intro b3
 refine go ?_
 refine J_sliceAny (U := tab) (p := 0) (q := 64) rfl rfl rfl rfl rfl rfl rfl (by omega) (by omega) (.inr (by omega)) ?_
 (first | refine J_slot 10 ((.slice (sliceAt a c 0 1) 64 c)) rfl (rfl) ?_ | refine K_slot 10 ((.slice (sliceAt a c 0 1) 64 c)) rfl (rfl) ?_)
 refine go ?_
 refine K_loop (fun i : Nat => i ≤ 64) (fun i => 64 - i)
  (fun i => [(2, ptr b2), (3, ptr b3), (10, .slice (sliceAt a c 0 1) 64 c), (11, .int .i64 64), (12, .int .i64 (i : Int))])
  (fun i => pts b3 (cl (wV (Sha.fillW b i)) 161) :: pts b2 (cl (wV (List.replicate 64 0)) 161) :: A :: F) 0 (Nat.zero_le _) rfl (by repeat (first | exact keep_nil | refine keep_cons rfl ?_)) (by rw [Sha.fillW_zero]; exact entA) ?_
 rintro i hi ih
 refine go ?_
 refine K_condP rfl rfl ?_ ?_
 ·intro hlt
  have hi1 : i < 64 := by omega
  obtain ⟨x, hx⟩ : ∃ x, b[i]? = some x := ⟨b[i]'(by omega), by simp⟩
  have hxd : b.getD i 0 = x := by rw [List.getD_eq_getElem?_getD, hx]; rfl
  have hx2 : (bV (b.take 64))[i]? = some (u8 x) := by
   refine bV_get ?_
   rw [List.getElem?_take, if_pos hi1, hx]
  obtain ⟨bb, oo, cc, hsl⟩ := hf.1.some (by intro e; rw [e] at hx2; simp at hx2)
  simp only [Value.slice.injEq, true_and] at hsl
  obtain ⟨hsl, -, rfl⟩ := hsl
  have hlen : (b.take 64).length = 64 := by rw [List.length_take]; omega
  have hf2 := hf.1
  rw [hsl, hlen] at hf2
  rw [hsl]
  refine go ?_
  refine J_at1 (U := tab) i rfl rfl rfl rfl rfl rfl rfl rfl hi1 ?_
  refine J_isLoad ?_
  refine J_loadAt (U := tab) 2 i rfl rfl rfl hf2 rfl hx2 rfl rfl ?_
  refine go ?_
  refine K_drawA (fun w => Sat G w ([pts b3 (cl (wV (Sha.fillW b i)) 161)])) (.st 0 (.st 1 (.st 2 (.st 3 (.st 4 (.st 5 (.st 6 (.st 7 (.st 8 (.st 9 (.st 10 (.st 11 (.st 12 (.act 13 .nil)))))))))))))) rfl (by kernel_rfl) (by kernel_rfl) (by kernel_rfl) (fun w hw => hw.ent entA) ?_
  refine go ?_
  have hg := Sha.fillW_get b i (i / 4) (by omega)
  have hq : (i : Int) / 4 = ((i / 4 : Nat) : Int) := by omega
  have hr : 24 - 8 * ((i : Int) % 4) = ((24 - 8 * (i % 4) : Nat) : Int) := by omega
  have hl64 : (wV (Sha.fillW b i)).length = 64 := by rw [wV_len, Sha.fillW_len]
  (repeat (first | refine go1 ?_ | refine J_fork ?_ ?_ | refine J_quo rfl rfl rfl (by omega) (by omega) (by simp only [inK]; omega) ?_ | refine J_rem rfl rfl rfl (by omega) (by omega) ?_ | refine J_mul rfl rfl rfl (by simp only [inK]; omega) ?_ | refine J_arrAt (U := tab) (i / 4) rfl rfl rfl rfl rfl rfl rfl hq (by omega) ?_ | (refine J_isLoad ?_; refine J_loadCellS (U := tab) 0 (i / 4) rfl rfl rfl (Nat.zero_add _) (wV_get hg) rfl rfl ?_) | (refine J_isConv ?_; refine J_wordOf (U := tab) rfl rfl rfl rfl rfl rfl ?_) | refine J_shlU (24 - 8 * (i % 4)) rfl rfl rfl hr (by omega) ?_ | refine J_orU rfl rfl rfl ?_))
  refine J_isStore ?_
  refine J_storeCell (U := tab) 0 (fun _ _ => trivial) rfl rfl rfl rfl rfl rfl rfl (by rw [wV_len, Sha.fillW_len]; omega) rfl ?_
  rw [show 0 + i / 4 = i / 4 from Nat.zero_add _]
  refine go ?_
  have hst := Sha.fillW_step b i hi1
  rw [hxd] at hst
  have hset : (wV (Sha.fillW b i)).set (i / 4) (.int .u32 (((Sha.part b (i / 4) (min 4 (i - 4 * (i / 4))) ||| wB x <<< (24 - 8 * (i % 4))).toNat : Nat) : Int)) = wV (Sha.fillW b (i + 1)) := by
   rw [← hst, show min 4 (i - 4 * (i / 4)) = i % 4 from by omega]
   exact wV_set _ _ _
  rw [hset, ← hsl]
  refine K_again ih (i + 1) rfl (by omega) (by omega) (by repeat (first | exact keep_nil | refine keep_cons rfl ?_)) entA
 intro hge
 have hi64 : i = 64 := by omega
 subst hi64
 clear ih
 refine go ?_
 refine K_loop (fun t : Nat => 16 ≤ t ∧ t ≤ 64) (fun t => 64 - t)
  (fun t => [(2, ptr b2), (3, ptr b3), (6, .int .i64 (t : Int))])
  (fun t => pts b3 (cl (wV (Sha.schedW b t)) 161) :: pts b2 (cl (wV (List.replicate 64 0)) 161) :: A :: F) 16 ⟨by omega, by omega⟩ rfl (by repeat (first | exact keep_nil | refine keep_cons rfl ?_)) (by rw [Sha.fillW_end]; exact entA) ?_
 rintro t ⟨ht1, ht2⟩ ih
 have hlen := Sha.schedW_len b t ht2
 refine go ?_
 refine K_condP rfl rfl ?_ ?_
 ·intro hlt
  have ht : t < 64 := by omega
  have g2 := Sha.schedW_get b t (t - 2) (by omega)
  have g7 := Sha.schedW_get b t (t - 7) (by omega)
  have g15 := Sha.schedW_get b t (t - 15) (by omega)
  have g16 := Sha.schedW_get b t (t - 16) (by omega)
  refine go ?_
  refine K_drawA (fun w => Sat G w ([pts b3 (cl (wV (Sha.schedW b t)) 161)])) (.st 0 (.st 1 (.st 2 (.st 3 (.st 4 (.st 5 (.st 6 (.st 7 (.st 8 (.st 9 .nil)))))))))) rfl (by kernel_rfl) (by kernel_rfl) (by kernel_rfl) (fun w hw => hw.ent entA) ?_
  refine go ?_
  (repeat (first | refine go1 ?_ | refine J_fork ?_ ?_ | refine J_arrAt (U := tab) (t - 2) rfl rfl rfl rfl rfl rfl rfl (by omega) (by omega) ?_ | refine J_arrAt (U := tab) (t - 15) rfl rfl rfl rfl rfl rfl rfl (by omega) (by omega) ?_ | (refine J_isLoad ?_; first | refine J_loadCellS (U := tab) 0 (t - 2) rfl rfl rfl (Nat.zero_add _) (wV_get g2) rfl rfl ?_ | refine J_loadCellS (U := tab) 0 (t - 15) rfl rfl rfl (Nat.zero_add _) (wV_get g15) rfl rfl ?_)))
  ((try refine go ?_); first | refine J_callE rfl rfl rfl rfl (turn_any _ 17 (by omega) (by omega)) entA ?_ (fun _ _ _ _ _ => trivial) | refine J_call0E rfl rfl rfl (turn_any _ 17 (by omega) (by omega)) entA ?_ (fun _ _ _ _ _ => trivial))
  rintro _ _ ⟨rfl, rfl⟩
  refine go ?_
  ((try refine go ?_); first | refine J_callE rfl rfl rfl rfl (turn_any _ 19 (by omega) (by omega)) entA ?_ (fun _ _ _ _ _ => trivial) | refine J_call0E rfl rfl rfl (turn_any _ 19 (by omega) (by omega)) entA ?_ (fun _ _ _ _ _ => trivial))
  rintro _ _ ⟨rfl, rfl⟩
  (repeat (first | refine go1 ?_ | refine J_fork ?_ ?_ | refine J_xorU rfl rfl rfl ?_ | refine J_andU rfl rfl rfl ?_ | refine J_orU rfl rfl rfl ?_ | refine J_addU rfl rfl rfl ?_ | refine J_shrU 10 rfl rfl rfl rfl (by omega) ?_))
  ((try refine go ?_); first | refine J_callE rfl rfl rfl rfl (turn_any _ 7 (by omega) (by omega)) entA ?_ (fun _ _ _ _ _ => trivial) | refine J_call0E rfl rfl rfl (turn_any _ 7 (by omega) (by omega)) entA ?_ (fun _ _ _ _ _ => trivial))
  rintro _ _ ⟨rfl, rfl⟩
  refine go ?_
  ((try refine go ?_); first | refine J_callE rfl rfl rfl rfl (turn_any _ 18 (by omega) (by omega)) entA ?_ (fun _ _ _ _ _ => trivial) | refine J_call0E rfl rfl rfl (turn_any _ 18 (by omega) (by omega)) entA ?_ (fun _ _ _ _ _ => trivial))
  rintro _ _ ⟨rfl, rfl⟩
  (repeat (first | refine go1 ?_ | refine J_fork ?_ ?_ | refine J_xorU rfl rfl rfl ?_ | refine J_andU rfl rfl rfl ?_ | refine J_orU rfl rfl rfl ?_ | refine J_addU rfl rfl rfl ?_ | refine J_shrU 3 rfl rfl rfl rfl (by omega) ?_))
  refine K_drawA (fun w => Sat G w ([pts b3 (cl (wV (Sha.schedW b t)) 161)])) (.st 0 (.st 1 (.st 2 (.st 3 (.st 4 (.st 5 (.st 6 (.st 7 (.st 8 (.st 9 (.st 10 (.st 11 (.st 12 (.st 13 (.st 14 (.act 15 .nil)))))))))))))))) rfl (by kernel_rfl) (by kernel_rfl) (by kernel_rfl) (fun w hw => hw.ent entA) ?_
  refine go ?_
  (repeat (first | refine go1 ?_ | refine J_fork ?_ ?_ | refine J_arrAt (U := tab) (t - 16) rfl rfl rfl rfl rfl rfl rfl (by omega) (by omega) ?_ | refine J_arrAt (U := tab) (t - 7) rfl rfl rfl rfl rfl rfl rfl (by omega) (by omega) ?_ | refine J_arrAt (U := tab) t rfl rfl rfl rfl rfl rfl rfl rfl ht ?_ | (refine J_isLoad ?_; first | refine J_loadCellS (U := tab) 0 (t - 16) rfl rfl rfl (Nat.zero_add _) (wV_get g16) rfl rfl ?_ | refine J_loadCellS (U := tab) 0 (t - 7) rfl rfl rfl (Nat.zero_add _) (wV_get g7) rfl rfl ?_) | refine J_xorU rfl rfl rfl ?_ | refine J_andU rfl rfl rfl ?_ | refine J_orU rfl rfl rfl ?_ | refine J_addU rfl rfl rfl ?_))
  refine J_isStore ?_
  refine J_storeCell (U := tab) 0 (fun _ _ => trivial) rfl rfl rfl rfl rfl rfl rfl (by rw [wV_len, hlen]; omega) rfl ?_
  rw [show 0 + t = t from Nat.zero_add _]
  refine go ?_
  have hset := (wV_set (Sha.schedW b t) t _).trans (congrArg wV (Sha.schedW_step b t ht1 ht))
  refine K_ent (H' := pts b3 (cl (wV (Sha.schedW b (t + 1))) 161) :: pts b2 (cl (wV (List.replicate 64 0)) 161) :: A :: F) (by rw [← hset]; exact Ent.refl _) ?_
  refine K_again ih (t + 1) rfl ⟨by omega, by omega⟩ (by omega) (by repeat (first | exact keep_nil | refine keep_cons rfl ?_)) entA
 intro hge
 have ht64 : t = 64 := by omega
 subst ht64
 rw [Sha.schedW_end]
 have hWl : (wV (Sha.sched b 64)).length = 64 := by rw [wV_len, Sha.sched_len]
 have hone : allOne (wV (Sha.sched b 64)) = true := allOne_wV _
 generalize wV (Sha.sched b 64) = W at hWl hone hE ⊢
 refine go ?_
 refine J_loadArr (U := tab) 0 rfl rfl rfl rfl rfl hWl ?_
 refine J_storeArr (U := tab) 1 (fun _ _ => trivial) rfl rfl rfl hWl (by intro e; rw [e] at hWl; cases hWl) hone rfl (by rw [hWl]; simp [wV_len]) rfl ?_
 refine go ?_
 refine K_return1C (U := tab) 1 hE Tryz.func156 rfl rfl rfl rfl rfl hWl rfl ⟨rfl, rfl⟩ entA
end Go.Proofs.YtpecmnaikjbanaaGreatDoor
/- digest, part c: a chunk taken. -/
namespace Go.Proofs.YtpecmnaikjbanaaGreatDoor
open Go Go.SL
attribute [local irreducible] J K Ctr Ends pts slc mapR mapI sbRow stock arrS loopP CtrY
def KAt (X : HP) : Prop := Vw X (.slice (some ⟨0, 0, none⟩) 64 64) 64 (wV Sha.ks)
theorem KAt.mono {A B : HP} (h : KAt A) (hAB : ∀ h, B h → ∃ h', sub h' h ∧ A h') : KAt B := Vw.mono h hAB
theorem ks_get {t : Nat} (h : t < 64) : Sha.ks[t]? = some (Sha.ks.getD t 0) := by
 rw [List.getD_eq_getElem?_getD, List.getElem?_eq_getElem (show t < Sha.ks.length from h)]; rfl
def stV (s : Sha.St) : Value := .agg (wV s.l).toArray
set_option maxRecDepth 20000 in
theorem take_any (A : HP) (hK : KAt A) (v : Value) (b : List UInt8) (hv : BAt A v b) (h64 : 64 ≤ b.length) (s : Sha.St) :
  Ctr Tryz.prog 138 [stV s, v] [A] (fun r H => r = stV (Sha.chunk s b) ∧ H = [A]) := by
 have hsp := spread_any A v b hv h64
 obtain ⟨a, c, rfl, hc⟩ := hv.2
 unfold KAt at hK
 have hwl : (Sha.sched b 64).length = 64 := Sha.sched_len b 64
 have hch : Sha.chunk s b = Sha.plus s (Sha.rounds s (Sha.sched b 64) 64) := rfl
 rw [hch]
 generalize Sha.sched b 64 = W at hsp hwl ⊢
 obtain ⟨s1, s2, s3, s4, s5, s6, s7, s8⟩ := s
 dsimp only [stV, Sha.St.l, wV, List.map_cons, List.map_nil]
 refine Ctr.enter Tryz.func138 (by kernel_rfl) rfl Tryz.ntmps138 rfl rfl ?_
 intro G F R hE
 refine go ?_
 refine J_box rfl rfl (fun _ _ _ => trivial) ?_
 intro b2
 refine go ?_
 refine J_alloc (U := tab) rfl rfl rfl (fun _ _ _ => trivial) ?_
 intro b4
 refine go ?_
 refine K_drawA (fun w => Sat G w ([pts b2 (cl [u32 s1, u32 s2, u32 s3, u32 s4, u32 s5, u32 s6, u32 s7, u32 s8] 168)])) (.st 0 (.st 1 (.st 2 (.st 3 (.st 4 (.st 5 (.st 6 (.st 7 (.st 8 (.st 9 (.st 10 (.st 11 (.st 12 (.st 13 (.st 14 (.st 15 (.st 16 (.st 17 (.st 18 (.st 19 (.st 20 (.st 21 (.st 22 (.st 23 .nil)))))))))))))))))))))))) rfl (by kernel_rfl) (by kernel_rfl) (by kernel_rfl) (fun w hw => hw.ent entA) ?_
 refine go ?_
 (repeat (first | refine go1 ?_ | refine J_fork ?_ ?_ | refine J_indexArr (U := tab) rfl rfl rfl rfl rfl rfl (by omega) (by omega) ?_))
 ((try refine go ?_); first | refine J_callE rfl rfl rfl rfl (hsp) entA ?_ (fun _ _ _ _ _ => trivial) | refine J_call0E rfl rfl rfl (hsp) entA ?_ (fun _ _ _ _ _ => trivial))
 rintro _ _ ⟨rfl, rfl⟩
 refine go ?_
 generalize hs : (⟨s1, s2, s3, s4, s5, s6, s7, s8⟩ : Sha.St) = s at hE
 refine K_loop (fun t : Nat => t ≤ 64) (fun t => 64 - t)
  (fun t => [(2, ptr b2), (4, ptr b4), (34, .agg (wV W).toArray), (35, .int .i64 (t : Int)), (5, u32 (Sha.rounds s W t).a), (6, u32 (Sha.rounds s W t).b), (7, u32 (Sha.rounds s W t).c), (8, u32 (Sha.rounds s W t).d), (9, u32 (Sha.rounds s W t).e), (10, u32 (Sha.rounds s W t).f), (11, u32 (Sha.rounds s W t).g), (12, u32 (Sha.rounds s W t).h)])
  (fun _ => pts b4 (cl (wV (List.replicate 8 0)) 168) :: pts b2 (cl [u32 s1, u32 s2, u32 s3, u32 s4, u32 s5, u32 s6, u32 s7, u32 s8] 168) :: A :: F) 0 (Nat.zero_le _) rfl (by subst hs; repeat (first | exact keep_nil | refine keep_cons rfl ?_)) entA ?_
 rintro t ht ih
 refine go ?_
 refine K_condP rfl rfl ?_ ?_
 ·intro hlt
  have ht1 : t < 64 := by omega
  have hr : Sha.rounds s W (t + 1) = Sha.round (Sha.rounds s W t) (Sha.ks.getD t 0) (W.getD t 0) := rfl
  generalize Sha.rounds s W t = T at hr ⊢
  obtain ⟨ta, tb, tc, td, te, tf, tg, th⟩ := T
  have hwg : (wV W).toArray.toList[((t : Nat) : Int).toNat]? = some (u32 (W.getD t 0)) := by
   rw [Int.toNat_natCast]
   exact wV_get (by rw [List.getD_eq_getElem?_getD, List.getElem?_eq_getElem (by omega)]; rfl)
  have hkg := wV_get (ks_get ht1)
  generalize Sha.ks.getD t 0 = kt at hr hkg
  generalize W.getD t 0 = wt at hr hwg
  simp only
  refine go ?_
  refine J_indexAgg (U := tab) rfl rfl rfl rfl rfl rfl rfl rfl (by omega) (by omega) hwg ?_
  refine go ?_
  refine K_drawA (fun w => Sat G w ([A])) (.st 0 (.st 1 (.st 3 (.st 6 (.st 10 (.st 11 (.st 12 (.st 13 (.st 14 (.st 15 (.st 16 (.st 18 (.st 19 (.st 20 (.st 22 (.act 2 (.act 4 (.st 5 (.act 7 (.st 8 (.st 9 (.st 17 (.st 21 (.st 23 (.st 24 .nil))))))))))))))))))))))))) rfl (by kernel_rfl) (by kernel_rfl) (by kernel_rfl) (fun w hw => hw.ent entA) ?_
  refine go ?_
  (repeat (first | refine go1 ?_ | refine J_fork ?_ ?_ | refine J_arrAt (U := tab) t rfl rfl rfl rfl rfl rfl rfl rfl ht1 ?_ | (refine J_isLoad ?_; refine J_loadAtS (U := tab) 0 t rfl rfl rfl hK rfl hkg rfl rfl ?_) | refine J_xorU rfl rfl rfl ?_ | refine J_andU rfl rfl rfl ?_ | refine J_orU rfl rfl rfl ?_ | refine J_addU rfl rfl rfl ?_))
  (first | refine J_callE rfl rfl rfl rfl ((turn_any _ 6 (by omega) (by omega))) entA ?_ (fun _ _ w hp hw => by obtain ⟨rfl, rfl⟩ := hp; exact hw.ent entA) | refine J_call0E rfl rfl rfl ((turn_any _ 6 (by omega) (by omega))) entA ?_ (fun _ _ w hp hw => by obtain ⟨rfl, rfl⟩ := hp; exact hw.ent entA))
  rintro _ _ ⟨rfl, rfl⟩
  refine go ?_
  (first | refine J_callE rfl rfl rfl rfl ((turn_any _ 11 (by omega) (by omega))) entA ?_ (fun _ _ w hp hw => by obtain ⟨rfl, rfl⟩ := hp; exact hw.ent entA) | refine J_call0E rfl rfl rfl ((turn_any _ 11 (by omega) (by omega))) entA ?_ (fun _ _ w hp hw => by obtain ⟨rfl, rfl⟩ := hp; exact hw.ent entA))
  rintro _ _ ⟨rfl, rfl⟩
  refine go ?_
  (repeat (first | refine go1 ?_ | refine J_fork ?_ ?_ | refine J_xorU rfl rfl rfl ?_ | refine J_andU rfl rfl rfl ?_ | refine J_orU rfl rfl rfl ?_ | refine J_addU rfl rfl rfl ?_))
  (first | refine J_callE rfl rfl rfl rfl ((turn_any _ 25 (by omega) (by omega))) entA ?_ (fun _ _ w hp hw => by obtain ⟨rfl, rfl⟩ := hp; exact hw.ent entA) | refine J_call0E rfl rfl rfl ((turn_any _ 25 (by omega) (by omega))) entA ?_ (fun _ _ w hp hw => by obtain ⟨rfl, rfl⟩ := hp; exact hw.ent entA))
  rintro _ _ ⟨rfl, rfl⟩
  (repeat (first | refine go1 ?_ | refine J_fork ?_ ?_ | refine J_xorU rfl rfl rfl ?_ | refine J_andU rfl rfl rfl ?_ | refine J_orU rfl rfl rfl ?_ | refine J_addU rfl rfl rfl ?_))
  ((try refine go ?_); first | refine J_callE rfl rfl rfl rfl (turn_any _ 2 (by omega) (by omega)) entA ?_ (fun _ _ _ _ _ => trivial) | refine J_call0E rfl rfl rfl (turn_any _ 2 (by omega) (by omega)) entA ?_ (fun _ _ _ _ _ => trivial))
  rintro _ _ ⟨rfl, rfl⟩
  refine go ?_
  ((try refine go ?_); first | refine J_callE rfl rfl rfl rfl (turn_any _ 13 (by omega) (by omega)) entA ?_ (fun _ _ _ _ _ => trivial) | refine J_call0E rfl rfl rfl (turn_any _ 13 (by omega) (by omega)) entA ?_ (fun _ _ _ _ _ => trivial))
  rintro _ _ ⟨rfl, rfl⟩
  (repeat (first | refine go1 ?_ | refine J_fork ?_ ?_ | refine J_xorU rfl rfl rfl ?_ | refine J_andU rfl rfl rfl ?_ | refine J_orU rfl rfl rfl ?_ | refine J_addU rfl rfl rfl ?_))
  ((try refine go ?_); first | refine J_callE rfl rfl rfl rfl (turn_any _ 22 (by omega) (by omega)) entA ?_ (fun _ _ _ _ _ => trivial) | refine J_call0E rfl rfl rfl (turn_any _ 22 (by omega) (by omega)) entA ?_ (fun _ _ _ _ _ => trivial))
  rintro _ _ ⟨rfl, rfl⟩
  (repeat (first | refine go1 ?_ | refine J_fork ?_ ?_ | refine J_xorU rfl rfl rfl ?_ | refine J_andU rfl rfl rfl ?_ | refine J_orU rfl rfl rfl ?_ | refine J_addU rfl rfl rfl ?_))
  (first | refine J_slot 5 ((u32 (Sha.rounds s W (t + 1)).a)) rfl ((by rw [hr]; rfl)) ?_ | refine K_slot 5 ((u32 (Sha.rounds s W (t + 1)).a)) rfl ((by rw [hr]; rfl)) ?_)
  (first | refine J_slot 6 ((u32 (Sha.rounds s W (t + 1)).b)) rfl ((by rw [hr]; rfl)) ?_ | refine K_slot 6 ((u32 (Sha.rounds s W (t + 1)).b)) rfl ((by rw [hr]; rfl)) ?_)
  (first | refine J_slot 7 ((u32 (Sha.rounds s W (t + 1)).c)) rfl ((by rw [hr]; rfl)) ?_ | refine K_slot 7 ((u32 (Sha.rounds s W (t + 1)).c)) rfl ((by rw [hr]; rfl)) ?_)
  (first | refine J_slot 8 ((u32 (Sha.rounds s W (t + 1)).d)) rfl ((by rw [hr]; rfl)) ?_ | refine K_slot 8 ((u32 (Sha.rounds s W (t + 1)).d)) rfl ((by rw [hr]; rfl)) ?_)
  (first | refine J_slot 9 ((u32 (Sha.rounds s W (t + 1)).e)) rfl ((by rw [hr]; rfl)) ?_ | refine K_slot 9 ((u32 (Sha.rounds s W (t + 1)).e)) rfl ((by rw [hr]; rfl)) ?_)
  (first | refine J_slot 10 ((u32 (Sha.rounds s W (t + 1)).f)) rfl ((by rw [hr]; rfl)) ?_ | refine K_slot 10 ((u32 (Sha.rounds s W (t + 1)).f)) rfl ((by rw [hr]; rfl)) ?_)
  (first | refine J_slot 11 ((u32 (Sha.rounds s W (t + 1)).g)) rfl ((by rw [hr]; rfl)) ?_ | refine K_slot 11 ((u32 (Sha.rounds s W (t + 1)).g)) rfl ((by rw [hr]; rfl)) ?_)
  (first | refine J_slot 12 ((u32 (Sha.rounds s W (t + 1)).h)) rfl ((by rw [hr]; rfl)) ?_ | refine K_slot 12 ((u32 (Sha.rounds s W (t + 1)).h)) rfl ((by rw [hr]; rfl)) ?_)
  refine K_again ih (t + 1) rfl (by omega) (by omega) (by repeat (first | exact keep_nil | refine keep_cons rfl ?_)) entA
 intro hge
 have ht64 : t = 64 := by omega
 subst ht64
 have hpl : stV (Sha.plus s (Sha.rounds s W 64)) = .agg (List.map u32 [(Sha.plus s (Sha.rounds s W 64)).a, (Sha.plus s (Sha.rounds s W 64)).b, (Sha.plus s (Sha.rounds s W 64)).c, (Sha.plus s (Sha.rounds s W 64)).d, (Sha.plus s (Sha.rounds s W 64)).e, (Sha.plus s (Sha.rounds s W 64)).f, (Sha.plus s (Sha.rounds s W 64)).g, (Sha.plus s (Sha.rounds s W 64)).h]).toArray := rfl
 rw [← hpl] at hE
 clear hpl hch ih
 generalize Sha.rounds s W 64 = T at hE ⊢
 obtain ⟨ta, tb, tc, td, te, tf, tg, th⟩ := T
 subst hs
 simp only
 refine go ?_
 (repeat (first | refine go1 ?_ | refine J_fork ?_ ?_ | refine J_indexArr (U := tab) rfl rfl rfl rfl rfl rfl (by omega) (by omega) ?_ | refine J_xorU rfl rfl rfl ?_ | refine J_andU rfl rfl rfl ?_ | refine J_orU rfl rfl rfl ?_ | refine J_addU rfl rfl rfl ?_))
 refine J_buildArr (U := tab) rfl rfl rfl rfl rfl rfl ?_
 refine go ?_
 refine K_return1C (U := tab) 0 hE Tryz.func138 rfl rfl rfl rfl rfl rfl rfl ⟨rfl, rfl⟩ entA
end Go.Proofs.YtpecmnaikjbanaaGreatDoor
/- Engine, part Dk: maps whose keys are hashes. Nothing here names a program. -/
namespace Go.SL
open Go
def dV (x : Dg) : Value := .agg (dC x).toArray
theorem dV_inj {a b : Dg} (h : dV a = dV b) : a = b := by
 simp only [dV, Value.agg.injEq] at h
 exact dC_inj (by simpa using congrArg Array.toList h)
section
variable {P : Program}
theorem checkDg {kt e : TypeId} (hu : P.underlying kt = some (.array 32 e)) (he : P.underlying e = some (.int .u8)) (hc : P.cellsOf e = 1) (em : Bool) (k : Dg) (w : World) : (Instr.checkKey em 10000 kt (dV k)).run P w = .ok () w := by
 obtain ⟨i, hi⟩ := info_of_underlying he
 have hpk : P.plainKey e = true := by unfold Program.plainKey; rw [he]
 have hsz : (sizeOf e).run P w = .ok 1 w := by
  rw [Go.run_sizeOf w hi]; congr 1
 rw [show (10000 : Nat) = 9999 + 1 from rfl, Instr.checkKey]
 simp only [Sem.run_bind, Go.run_underlying hu, Result.andThen_ok, dV]
 simp only [Std.Legacy.Range.forIn_eq_forIn_range', Std.Legacy.Range.size, Nat.sub_zero, Nat.add_one_sub_one, Nat.div_one]
 have each : ∀ j ∈ List.range' 0 32, j < 32 := fun j hj => by simp [List.mem_range'] at hj; omega
 generalize List.range' 0 32 = is at each
 induction is with
 | nil => simp
 | cons j is ih =>
  have hj := each j (by simp)
  have hcell : (dC k).toArray[j * 1]? = some (u8 (k.at j)) := by
   rw [Nat.mul_one, dC_bV]
   simp only [List.getElem?_toArray]
   rw [show bV k.bs = k.bs.map u8 from rfl, List.getElem?_map, List.getElem?_eq_getElem (by rw [k.len]; exact hj)]
   simp [Dg.at, k.len, hj]
  have p1 : (part e (dC k).toArray (j * 1)).run P w = .ok (u8 (k.at j)) w := run_part_plain w hpk hcell
  have p2 : (Instr.checkKey em 9999 e (u8 (k.at j))).run P w = .ok () w := by
   rw [show (9999 : Nat) = 9998 + 1 from rfl, Instr.checkKey]
   simp [Go.run_underlying he, u8]
  simp only [List.forIn_cons, Sem.run_bind, hsz, Result.andThen_ok, p1, p2, Sem.run_pure]
  exact ih (fun y hy => each y (by simp [hy]))
theorem run_equalDg {kt e : TypeId} (hu : P.underlying kt = some (.array 32 e)) (he : P.underlying e = some (.int .u8)) (hc : P.cellsOf e = 1) (a b : Dg) (w : World) : (Op.equal kt (dV a) (dV b)).run P w = .ok (decide (a = b)) w :=
 run_equalD hu he hc a b 9998 w
theorem keyDg {kt e : TypeId} (hu : P.underlying kt = some (.array 32 e)) (he : P.underlying e = some (.int .u8)) (hc : P.cellsOf e = 1) : KeyOk P kt dV where
 inj _ _ := dV_inj
 check em k w := checkDg hu he hc em k w
 find k l ks w h := by
  rw [run_findKey_eq (w := w) (by rw [hu])]
  have key : ∀ (l : List MapEntry) (ks : List Dg) (o : Nat), l.map (·.key) = ks.map dV →
    ∃ r, (Instr.findAsking kt (dV k) l o).run P w = .ok r w ∧ ((r = none ∧ k ∉ ks) ∨ ∃ i e, r = some (o + i, e.val) ∧ l[i]? = some e ∧ ks[i]? = some k ∧ ∀ j, j < i → ks[j]? ≠ some k) := by
   intro l
   induction l with
   | nil =>
    intro ks o h
    have : ks = [] := by simpa using h.symm
    subst this
    exact ⟨none, by simp [Instr.findAsking], .inl ⟨rfl, by simp⟩⟩
   | cons en l ih =>
    intro ks o h
    cases ks with
    | nil => simp at h
    | cons c ks =>
     simp only [List.map_cons, List.cons.injEq] at h
     obtain ⟨h1, h2⟩ := h
     have hq : (Op.equal kt (dV k) en.key).run P w = .ok (decide (k = c)) w := by rw [h1]; exact run_equalDg hu he hc k c w
     by_cases hkc : k = c
     ·subst hkc
      refine ⟨some (o + 0, en.val), by simp [Instr.findAsking, hq], .inr ⟨0, en, rfl, by simp, by simp, fun j hj => absurd hj (by omega)⟩⟩
     ·obtain ⟨r, hr, hcase⟩ := ih ks (o + 1) h2
      refine ⟨r, by simp [Instr.findAsking, hq, hkc, hr], ?_⟩
      rcases hcase with ⟨rfl, hn⟩ | ⟨i, e', rfl, hi, hk, hj⟩
      ·exact .inl ⟨rfl, by simp [hkc, hn]⟩
      ·refine .inr ⟨i + 1, e', by congr 2; omega, by simpa using hi, by simpa using hk, fun j hj' => ?_⟩
       cases j with
       | zero => simp; exact fun h => hkc h.symm
       | succ j => simpa using hj j (by omega)
  obtain ⟨r, hr, hcase⟩ := key l ks 0 h
  refine ⟨r, hr, ?_⟩
  rcases hcase with h | ⟨i, e, hr, hi, hk, hj⟩
  ·exact .inl h
  ·exact .inr ⟨i, e, by rw [hr]; simp, hi, hk, hj⟩
 bits k := by
  rw [show (10000 : Nat) = 9999 + 1 from rfl]
  simp only [dV, Instr.sameBits, beq_self_eq_true, Bool.true_and, List.all_eq_true]
  have : ∀ (l : List UInt8), ∀ x ∈ ((bV l).zip (bV l)), Instr.sameBits 9999 x.1 x.2 = true := by
   intro l
   induction l with
   | nil => simp [bV]
   | cons c l ih =>
    intro x hx
    simp only [bV, List.map_cons, List.zip_cons_cons, List.mem_cons] at hx
    rcases hx with rfl | hx
    ·simp [u8, Instr.sameBits]
    ·exact ih x hx
  intro x hx
  rw [dC_bV] at hx
  exact this k.bs x hx
end
end Go.SL
/- digest, part d: the sum. -/
namespace Go.Proofs.YtpecmnaikjbanaaGreatDoor
open Go Go.SL
attribute [local irreducible] J K Ctr Ends pts slc mapR mapI sbRow stock arrS loopP CtrY Sha.chunks Sha.chunk Sha.rounds Sha.sched sumL
theorem bytesClone_any (A : HP) (v : Value) (b : List UInt8) (hv : BAt A v b) (hl : b.length ≤ 1000000000) : Ctr Tryz.prog 139 [v] [A] (fun r H => H = [slc 5 1 r b.length (bV b), A]) := by
 obtain ⟨a, c, rfl, hc⟩ := hv.2
 refine Ctr.enter Tryz.func139 (by kernel_rfl) rfl Tryz.ntmps139 rfl rfl ?_
 intro G F R hE
 cases a with
 | none =>
  have hb : b = [] := by
   obtain ⟨a, cap, h1, h2 | ⟨x, o, h2, _⟩⟩ := hv.1
   ·simpa [bV] using h2
   ·simp only [Value.slice.injEq] at h1; rw [← h1.1] at h2; cases h2
  subst hb
  refine go ?_
  refine K_ent (slc_lift 5 1 none _) ?_
  (first | refine K_return hE Tryz.func139 rfl _ rfl rfl entA | refine K_fallEnd hE Tryz.func139 rfl _ rfl rfl entA)
 | some a =>
  refine go ?_
  refine J_buildSlice1 (U := tab) rfl rfl rfl rfl rfl rfl rfl rfl rfl (fun _ _ _ => trivial) ?_
  intro b0
  refine go ?_
  (refine J_ent (slc_row 5 1 b0 0 0 [] [] _ rfl (Nat.le_refl _) (by simp)) ?_; refine J_append (U := tab) (mm := (b).length) (news := bV (b)) 0 1 rfl rfl rfl rfl rfl rfl rfl rfl rfl rfl rfl rfl (hv.1) (by show _ = _ * 1; rw [bV_length]; omega) (bV_one _) (by omega) (by show (_ + _) * 1 ≤ _; omega) (fun _ => rfl) (fun _ _ _ => trivial) ?_; intro vA; rw [Nat.zero_add, List.nil_append]; (first | refine J_shape 0 rfl ?_ | refine K_shape 0 rfl ?_); rintro aA cA rfl)
  refine go ?_
  (first | refine K_return hE Tryz.func139 rfl _ rfl rfl entA | refine K_fallEnd hE Tryz.func139 rfl _ rfl rfl entA)
set_option maxRecDepth 20000 in
theorem Sum_any (A : HP) (hK : KAt A) (v : Value) (b : List UInt8) (hv : BAt A v b) (hl : b.length ≤ 1000000000) :
    Ctr Tryz.prog 94 [v] [A] (fun r H => r = dV (sumL b) ∧ H = [A]) := by
  obtain ⟨a, c, rfl, hc⟩ := hv.2
  refine Ctr.enter Tryz.func94 (by kernel_rfl) rfl Tryz.ntmps94 rfl rfl ?_
  intro G F R hE
  refine K_regionA rfl ?_
  refine J_alloc (U := tab) rfl rfl rfl (fun _ _ _ => trivial) ?_
  intro b2
  (refine goR ?_)
  refine K_regionA rfl ?_
  refine J_buildArr (U := tab) (cs := wV Sha.start.l) rfl rfl rfl rfl rfl rfl ?_
  refine J_alloc (U := tab) rfl rfl rfl (fun _ _ _ => trivial) ?_
  intro b3
  refine J_storeArr (U := tab) (l' := wV Sha.start.l) 0 (fun _ _ => trivial) rfl rfl rfl rfl (by decide) (allOne_wV _) rfl rfl rfl ?_
  refine J_ent (H' := pts b3 (cl (wV (Sha.chunks Sha.start b 0).l) 168) :: pts b2 (cl (dC Dg.zero) 30) :: A :: F) (by unfold Sha.chunks; exact entA) ?_
  refine go ?_
  refine J_quo rfl rfl rfl (by omega) (by omega) (by simp only [inK]; omega) ?_
  refine go ?_
  refine J_mul rfl rfl rfl (by simp only [inK]; omega) ?_
  (first | refine J_slot 15 ((.int .i64 ((64 * (b.length / 64) : Nat) : Int))) rfl ((congrArg (Value.int .i64) (by omega))) ?_ | refine K_slot 15 ((.int .i64 ((64 * (b.length / 64) : Nat) : Int))) rfl ((congrArg (Value.int .i64) (by omega))) ?_)
  refine go ?_
  refine K_loop (fun q : Nat => q ≤ b.length / 64) (fun q => b.length / 64 - q)
    (fun q => [(0, .slice a b.length c), (2, ptr b2), (3, ptr b3), (4, .int .i64 ((64 * (b.length / 64) : Nat) : Int)), (5, .int .i64 ((64 * q : Nat) : Int))])
    (fun q => pts b3 (cl (wV (Sha.chunks Sha.start b q).l) 168) :: pts b2 (cl (dC Dg.zero) 30) :: A :: F) 0 (Nat.zero_le _) rfl (by repeat (first | exact keep_nil | refine keep_cons rfl ?_)) entA ?_
  rintro q hq ih
  refine go ?_
  refine K_condP rfl rfl ?_ ?_
  · intro hlt
    have hq1 : q < b.length / 64 := by omega
    have hcut := hv.cut (64 * q) (by omega)
    have htk := take_any A hK _ _ hcut (by rw [List.length_drop]; omega) (Sha.chunks Sha.start b q)
    have hnx : Sha.chunk (Sha.chunks Sha.start b q) (b.drop (64 * q)) = Sha.chunks Sha.start b (q + 1) := by conv => rhs; unfold Sha.chunks
    rw [hnx] at htk
    have hl8 : ∀ s : Sha.St, (wV s.l).length = 8 := fun s => rfl
    refine go ?_
    refine K_drawA (fun w => Sat G w ([pts b3 (cl (wV (Sha.chunks Sha.start b q).l) 168)])) (.st 0 (.st 1 (.st 2 (.st 3 (.act 4 (.act 5 .nil)))))) rfl (by kernel_rfl) (by kernel_rfl) (by kernel_rfl) (fun w hw => hw.ent entA) ?_
    refine go ?_
    refine J_loadArrS (U := tab) 0 rfl rfl rfl rfl rfl rfl ?_
    refine go ?_
    refine J_sliceAny (U := tab) (p := ((64 * q : Nat) : Int)) (q := (b.length : Int)) rfl rfl rfl rfl rfl rfl rfl (by omega) (by omega) (.inl rfl) ?_
    (first | refine J_slot 24 ((.slice (sliceAt a c (64 * q) 1) (b.length - 64 * q) (c - 64 * q))) rfl (rfl) ?_ | refine K_slot 24 ((.slice (sliceAt a c (64 * q) 1) (b.length - 64 * q) (c - 64 * q))) rfl (rfl) ?_)
    (first | refine J_callE rfl rfl rfl rfl (htk) entA ?_ (fun _ _ w hp hw => by obtain ⟨rfl, rfl⟩ := hp; exact hw.ent entA) | refine J_call0E rfl rfl rfl (htk) entA ?_ (fun _ _ w hp hw => by obtain ⟨rfl, rfl⟩ := hp; exact hw.ent entA))
    rintro _ _ ⟨rfl, rfl⟩
    unfold stV
    refine J_isStore ?_
    refine J_storeArr (U := tab) 1 (fun _ _ => trivial) rfl rfl rfl rfl (by intro e; have := congrArg List.length e; rw [hl8] at this; cases this) (allOne_wV _) rfl (by rw [hl8, hl8]) rfl ?_
    refine go ?_
    (first | refine J_slot 5 ((.int .i64 ((64 * (q + 1) : Nat) : Int))) rfl ((congrArg (Value.int .i64) (by omega))) ?_ | refine K_slot 5 ((.int .i64 ((64 * (q + 1) : Nat) : Int))) rfl ((congrArg (Value.int .i64) (by omega))) ?_)
    refine K_again ih (q + 1) rfl (by omega) (by omega) (by repeat (first | exact keep_nil | refine keep_cons rfl ?_)) entA
  intro hge
  have hqe : q = b.length / 64 := by omega
  subst hqe
  clear ih
  have hcut := hv.cut (64 * (b.length / 64)) (by omega)
  obtain ⟨B1, hB1⟩ : ∃ B1, B1 = b.drop (64 * (b.length / 64)) := ⟨_, rfl⟩
  have hB1l : B1.length = b.length - 64 * (b.length / 64) := by rw [hB1, List.length_drop]
  rw [← hB1, ← hB1l] at hcut
  refine go ?_
  refine J_sliceAny (U := tab) (p := ((64 * (b.length / 64) : Nat) : Int)) (q := (b.length : Int)) rfl rfl rfl rfl rfl rfl rfl (by omega) (by omega) (.inl rfl) ?_
  (first | refine J_slot 28 ((.slice (sliceAt a c (64 * (b.length / 64)) 1) B1.length (c - 64 * (b.length / 64)))) rfl ((by rw [hB1l]; rfl)) ?_ | refine K_slot 28 ((.slice (sliceAt a c (64 * (b.length / 64)) 1) B1.length (c - 64 * (b.length / 64)))) rfl ((by rw [hB1l]; rfl)) ?_)
  refine go ?_
  ((try refine go ?_); first | refine J_callE rfl rfl rfl rfl (bytesClone_any A _ B1 hcut (by omega)) entA ?_ (fun _ _ _ _ _ => trivial) | refine J_call0E rfl rfl rfl (bytesClone_any A _ B1 hcut (by omega)) entA ?_ (fun _ _ _ _ _ => trivial))
  rintro r _ rfl
  (first | refine J_shape 0 rfl ?_ | refine K_shape 0 rfl ?_)
  rintro ra rc rfl
  refine go ?_
  (refine J_buildSlice1 (U := tab) (cs := bV [(128 : UInt8)]) rfl rfl rfl rfl rfl rfl rfl rfl rfl (fun _ _ _ => trivial) ?_; intro bA; refine J_append (U := tab) (mm := 1) (news := bV [(128 : UInt8)]) 1 0 rfl rfl rfl rfl rfl rfl rfl rfl rfl rfl rfl rfl (Vw.pts rfl) rfl (bV_one _) (by omega) (by show (_ + _) * 1 ≤ _; omega) (fun _ => rfl) (fun _ _ _ => trivial) ?_; intro vA; rw [show bV (B1) ++ bV [(128 : UInt8)] = bV ((B1) ++ [(128 : UInt8)]) from by simp [bV], show (B1).length + 1 = ((B1) ++ [(128 : UInt8)]).length from (@List.length_append _ (B1) [(128 : UInt8)]).symm]; (first | refine J_shape 1 rfl ?_ | refine K_shape 1 rfl ?_); rintro aA cA rfl)
  refine go ?_
  obtain ⟨z, hz⟩ : ∃ z, z = (119 - b.length % 64) % 64 := ⟨_, rfl⟩
  have hz1 : (B1.length + 1 + z) % 64 = 56 := by omega
  have hz2 : z < 64 := by omega
  have hB164 : B1.length < 64 := by omega
  have hl2 : ∀ j : Nat, (B1 ++ 128 :: List.replicate j (0 : UInt8)).length = B1.length + 1 + j := fun j => by simp; omega
  obtain ⟨S1, hS1⟩ : ∃ S1, S1 = Sha.chunks Sha.start b (b.length / 64) := ⟨_, rfl⟩
  rw [← hS1]
  refine K_loop (fun y : Nat × Option Addr × Nat => y.1 ≤ z) (fun y => z - y.1)
    (fun y => [(0, .slice a b.length c), (2, ptr b2), (3, ptr b3), (6, .slice y.2.1 (B1 ++ 128 :: List.replicate y.1 (0 : UInt8)).length y.2.2)])
    (fun y => slc 5 1 (.slice y.2.1 (B1 ++ 128 :: List.replicate y.1 (0 : UInt8)).length y.2.2) (B1 ++ 128 :: List.replicate y.1 (0 : UInt8)).length (bV (B1 ++ 128 :: List.replicate y.1 (0 : UInt8))) :: A :: pts b3 (cl (wV S1.l) 168) :: pts b2 (cl (dC Dg.zero) 30) :: F) (0, aA, cA) (Nat.zero_le _) rfl (by repeat (first | exact keep_nil | refine keep_cons rfl ?_)) entA ?_
  rintro ⟨j, a2, c2⟩ hj ih
  simp only at hj
  have hlj := hl2 j
  dsimp only
  refine go ?_
  refine J_rem rfl rfl rfl (by omega) (by omega) ?_
  refine go ?_
  refine K_condP rfl rfl ?_ ?_
  · intro hne
    have hjz : j < z := by rcases Nat.lt_or_ge j z with h | h; exact h; exfalso; apply hne; rw [hlj]; have : j = z := by omega
                           subst this; omega
    refine go ?_
    (refine J_buildSlice1 (U := tab) (cs := bV [(0 : UInt8)]) rfl rfl rfl rfl rfl rfl rfl rfl rfl (fun _ _ _ => trivial) ?_; intro bA; refine J_append (U := tab) (mm := 1) (news := bV [(0 : UInt8)]) 1 0 rfl rfl rfl rfl rfl rfl rfl rfl rfl rfl rfl rfl (Vw.pts rfl) rfl (bV_one _) (by (rw [hlj]; omega)) (by show (_ + _) * 1 ≤ _; (rw [hlj]; omega)) (fun _ => rfl) (fun _ _ _ => trivial) ?_; intro vA; rw [show bV ((B1 ++ 128 :: List.replicate j (0 : UInt8))) ++ bV [(0 : UInt8)] = bV (((B1 ++ 128 :: List.replicate j (0 : UInt8))) ++ [(0 : UInt8)]) from by simp [bV], show ((B1 ++ 128 :: List.replicate j (0 : UInt8))).length + 1 = (((B1 ++ 128 :: List.replicate j (0 : UInt8))) ++ [(0 : UInt8)]).length from (@List.length_append _ ((B1 ++ 128 :: List.replicate j (0 : UInt8))) [(0 : UInt8)]).symm]; (first | refine J_shape 1 rfl ?_ | refine K_shape 1 rfl ?_); rintro aA cA rfl)
    rw [show B1 ++ 128 :: List.replicate j (0 : UInt8) ++ [0] = B1 ++ 128 :: List.replicate (j + 1) (0 : UInt8) from by rw [List.replicate_succ']; simp]
    refine go ?_
    refine K_again ih (j + 1, aA, cA) rfl (by simp only; omega) (by simp only; omega) (by repeat (first | exact keep_nil | refine keep_cons rfl ?_)) entA
  intro heq
  have hjz : j = z := by
    have heq2 : ((B1.length + 1 + j : Nat) : Int) % 64 = 56 := by rw [← hlj]; exact Decidable.not_not.1 heq
    omega
  subst hjz
  clear ih
  obtain ⟨T0, hT0⟩ : ∃ T0, T0 = B1 ++ 128 :: List.replicate j (0 : UInt8) := ⟨_, rfl⟩
  rw [← hT0] at hlj ⊢
  have hl3 : ∀ i : Nat, i ≤ 8 → (T0 ++ (Sha.be8 (8 * b.length)).take i).length = T0.length + i := fun i hi => by
    rw [List.length_append, List.length_take]; simp only [Sha.be8, List.length_map, List.length_range]; omega
  refine go ?_
  refine K_loop (fun y : Nat × Option Addr × Nat => y.1 ≤ 8) (fun y => 8 - y.1)
    (fun y => [(0, .slice a b.length c), (2, ptr b2), (3, ptr b3), (6, .slice y.2.1 (T0 ++ (Sha.be8 (8 * b.length)).take y.1).length y.2.2), (39, .int .i64 (y.1 : Int))])
    (fun y => slc 5 1 (.slice y.2.1 (T0 ++ (Sha.be8 (8 * b.length)).take y.1).length y.2.2) (T0 ++ (Sha.be8 (8 * b.length)).take y.1).length (bV (T0 ++ (Sha.be8 (8 * b.length)).take y.1)) :: A :: pts b3 (cl (wV S1.l) 168) :: pts b2 (cl (dC Dg.zero) 30) :: F) (0, a2, c2) (Nat.zero_le _) rfl (by simp only [List.take_zero, List.append_nil]; exact (by repeat (first | exact keep_nil | refine keep_cons rfl ?_))) (by simp only [List.take_zero, List.append_nil]; exact entA) ?_
  rintro ⟨i, a3, c3⟩ hi ih
  simp only at hi
  have hli := hl3 i hi
  dsimp only
  refine go ?_
  refine K_condP rfl rfl ?_ ?_
  · intro hlt
    have hi8 : i < 8 := by omega
    have hbe : (Sha.be8 (8 * b.length)).take (i + 1) = (Sha.be8 (8 * b.length)).take i ++ [UInt8.ofNat (8 * b.length / 2 ^ (56 - 8 * i))] := by
      rw [List.take_add_one]; simp [Sha.be8, hi8]
    refine go ?_
    refine J_shlW rfl rfl rfl (by omega) ?_
    (first | refine J_slot 46 ((.int .u64 ((8 * b.length : Nat) : Int))) rfl ((shlU_slot (x := b.length) (q := 3) (by omega) (by omega) (by omega))) ?_ | refine K_slot 46 ((.int .u64 ((8 * b.length : Nat) : Int))) rfl ((shlU_slot (x := b.length) (q := 3) (by omega) (by omega) (by omega))) ?_)
    refine go ?_
    refine J_mul rfl rfl rfl (by simp only [inK]; omega) ?_
    refine go ?_
    (first | refine J_slot 49 ((.int .i64 ((56 - 8 * i : Nat) : Int))) rfl ((congrArg (Value.int .i64) (by omega))) ?_ | refine K_slot 49 ((.int .i64 ((56 - 8 * i : Nat) : Int))) rfl ((congrArg (Value.int .i64) (by omega))) ?_)
    refine J_shr rfl rfl rfl (by omega) ?_
    (first | refine J_slot 50 ((.int .u64 ((8 * b.length / 2 ^ (56 - 8 * i) : Nat) : Int))) rfl ((congrArg (Value.int .u64) (by rw [Int.toNat_natCast, show min (56 - 8 * i) IntKind.u64.bits = 56 - 8 * i from by show min (56 - 8 * i) 64 = _; omega]; simp))) ?_ | refine K_slot 50 ((.int .u64 ((8 * b.length / 2 ^ (56 - 8 * i) : Nat) : Int))) rfl ((congrArg (Value.int .u64) (by rw [Int.toNat_natCast, show min (56 - 8 * i) IntKind.u64.bits = 56 - 8 * i from by show min (56 - 8 * i) 64 = _; omega]; simp))) ?_)
    refine J_isConv ?_
    refine J_convW (U := tab) rfl rfl rfl rfl rfl rfl ?_
    (first | refine J_slot 51 ((u8 (UInt8.ofNat (8 * b.length / 2 ^ (56 - 8 * i))))) rfl ((conv_u8 _)) ?_ | refine K_slot 51 ((u8 (UInt8.ofNat (8 * b.length / 2 ^ (56 - 8 * i))))) rfl ((conv_u8 _)) ?_)
    (refine J_buildSlice1 (U := tab) (cs := bV [(UInt8.ofNat (8 * b.length / 2 ^ (56 - 8 * i)))]) rfl rfl rfl rfl rfl rfl rfl rfl rfl (fun _ _ _ => trivial) ?_; intro bA; refine J_append (U := tab) (mm := 1) (news := bV [(UInt8.ofNat (8 * b.length / 2 ^ (56 - 8 * i)))]) 1 0 rfl rfl rfl rfl rfl rfl rfl rfl rfl rfl rfl rfl (Vw.pts rfl) rfl (bV_one _) (by (rw [hli]; omega)) (by show (_ + _) * 1 ≤ _; (rw [hli]; omega)) (fun _ => rfl) (fun _ _ _ => trivial) ?_; intro vA; rw [show bV ((T0 ++ (Sha.be8 (8 * b.length)).take i)) ++ bV [(UInt8.ofNat (8 * b.length / 2 ^ (56 - 8 * i)))] = bV (((T0 ++ (Sha.be8 (8 * b.length)).take i)) ++ [(UInt8.ofNat (8 * b.length / 2 ^ (56 - 8 * i)))]) from by simp [bV], show ((T0 ++ (Sha.be8 (8 * b.length)).take i)).length + 1 = (((T0 ++ (Sha.be8 (8 * b.length)).take i)) ++ [(UInt8.ofNat (8 * b.length / 2 ^ (56 - 8 * i)))]).length from (@List.length_append _ ((T0 ++ (Sha.be8 (8 * b.length)).take i)) [(UInt8.ofNat (8 * b.length / 2 ^ (56 - 8 * i)))]).symm]; (first | refine J_shape 1 rfl ?_ | refine K_shape 1 rfl ?_); rintro aA cA rfl)
    rw [show T0 ++ (Sha.be8 (8 * b.length)).take i ++ [UInt8.ofNat (8 * b.length / 2 ^ (56 - 8 * i))] = T0 ++ (Sha.be8 (8 * b.length)).take (i + 1) from by rw [hbe, List.append_assoc]]
    refine go ?_
    refine K_again ih (i + 1, aA, cA) rfl (by simp only; omega) (by simp only; omega) (by repeat (first | exact keep_nil | refine keep_cons rfl ?_)) entA
  intro hge
  have hi8 : i = 8 := by omega
  subst hi8
  clear ih
  have hmsg := Sha.sum_split b
  rw [← hS1, ← hB1] at hmsg
  have hpad : B1 ++ Sha.pad b.length = T0 ++ (Sha.be8 (8 * b.length)).take 8 := by
    rw [hT0, List.take_of_length_le (by simp [Sha.be8])]
    unfold Sha.pad
    rw [← hz]; simp
  rw [hpad] at hmsg
  generalize T0 ++ (Sha.be8 (8 * b.length)).take 8 = T at hli hmsg ⊢
  have hT64 : T.length % 64 = 0 := by omega
  have hTl : T.length ≤ 1000000200 := by omega
  clear hlj hl3 hpad hT0 hl2 hB1 hB1l hcut hz hz1 hz2 hB164 hS1 hli
  have hl8 : ∀ s : Sha.St, (wV s.l).length = 8 := fun s => rfl
  refine K_slcB (bs := T) 0 rfl ?_
  intro hvT
  have hvT2 : BAt (Sep [slc 5 1 (.slice a3 T.length c3) T.length (bV T), A]) (.slice a3 T.length c3) T := hvT.mono (Sep_get (i := 0) rfl)
  have hK2 : KAt (Sep [slc 5 1 (.slice a3 T.length c3) T.length (bV T), A]) := hK.mono (Sep_get (i := 1) rfl)
  refine K_ent (Ent.resep [_, _] _) ?_
  refine go ?_
  refine K_loop (fun q : Nat => q ≤ T.length / 64) (fun q => T.length / 64 - q)
    (fun q => [(2, ptr b2), (3, ptr b3), (6, .slice a3 T.length c3), (8, .int .i64 ((64 * q : Nat) : Int))])
    (fun q => Sep [slc 5 1 (.slice a3 T.length c3) T.length (bV T), A] :: pts b3 (cl (wV (Sha.chunks S1 T q).l) 168) :: pts b2 (cl (dC Dg.zero) 30) :: F) 0 (Nat.zero_le _) rfl (by repeat (first | exact keep_nil | refine keep_cons rfl ?_)) (by unfold Sha.chunks; exact entA) ?_
  rintro q hq ih
  refine go ?_
  refine K_condP rfl rfl ?_ ?_
  · intro hlt
    have hq1 : q < T.length / 64 := by omega
    have hcut := hvT2.cut (64 * q) (by omega)
    have htk := take_any _ hK2 _ _ hcut (by rw [List.length_drop]; omega) (Sha.chunks S1 T q)
    have hnx : Sha.chunk (Sha.chunks S1 T q) (T.drop (64 * q)) = Sha.chunks S1 T (q + 1) := by conv => rhs; unfold Sha.chunks
    rw [hnx] at htk
    refine go ?_
    refine K_drawA (fun w => Sat G w ([pts b3 (cl (wV (Sha.chunks S1 T q).l) 168)])) (.st 0 (.st 1 (.st 2 (.st 3 (.act 4 (.act 5 .nil)))))) rfl (by kernel_rfl) (by kernel_rfl) (by kernel_rfl) (fun w hw => hw.ent entA) ?_
    refine go ?_
    refine J_loadArrS (U := tab) 0 rfl rfl rfl rfl rfl rfl ?_
    refine go ?_
    refine J_sliceAny (U := tab) (p := ((64 * q : Nat) : Int)) (q := (T.length : Int)) rfl rfl rfl rfl rfl rfl rfl (by omega) (by omega) (.inl rfl) ?_
    (first | refine J_slot 64 ((.slice (sliceAt a3 c3 (64 * q) 1) (T.length - 64 * q) (c3 - 64 * q))) rfl (rfl) ?_ | refine K_slot 64 ((.slice (sliceAt a3 c3 (64 * q) 1) (T.length - 64 * q) (c3 - 64 * q))) rfl (rfl) ?_)
    (first | refine J_callE rfl rfl rfl rfl (htk) entA ?_ (fun _ _ w hp hw => by obtain ⟨rfl, rfl⟩ := hp; exact hw.ent entA) | refine J_call0E rfl rfl rfl (htk) entA ?_ (fun _ _ w hp hw => by obtain ⟨rfl, rfl⟩ := hp; exact hw.ent entA))
    rintro _ _ ⟨rfl, rfl⟩
    unfold stV
    refine J_isStore ?_
    refine J_storeArr (U := tab) 1 (fun _ _ => trivial) rfl rfl rfl rfl (by intro e; have := congrArg List.length e; rw [hl8] at this; cases this) (allOne_wV _) rfl (by rw [hl8, hl8]) rfl ?_
    refine go ?_
    (first | refine J_slot 8 ((.int .i64 ((64 * (q + 1) : Nat) : Int))) rfl ((congrArg (Value.int .i64) (by omega))) ?_ | refine K_slot 8 ((.int .i64 ((64 * (q + 1) : Nat) : Int))) rfl ((congrArg (Value.int .i64) (by omega))) ?_)
    refine K_again ih (q + 1) rfl (by omega) (by omega) (by repeat (first | exact keep_nil | refine keep_cons rfl ?_)) entA
  intro hge
  have hqe : q = T.length / 64 := by omega
  subst hqe
  rw [← hmsg]
  have hsum : (sumL b).bs = Sha.out (Sha.chunks Sha.start (Sha.msg b) ((Sha.msg b).length / 64)) := sumL_bs b
  clear hmsg ih
  generalize Sha.chunks Sha.start (Sha.msg b) ((Sha.msg b).length / 64) = S2 at hsum ⊢
  refine K_ent (Ent.unsep _ _) ?_
  refine go ?_
  refine J_alloc (U := tab) rfl rfl rfl (fun _ _ _ => trivial) ?_
  intro b9
  refine go ?_
  have hol := Sha.out_len S2
  have hdl : ∀ i, i ≤ 32 → ((Sha.out S2).take i ++ List.replicate (32 - i) (0 : UInt8)).length = 32 := fun i hi => by
    rw [List.length_append, List.length_take, List.length_replicate, hol]; omega
  refine K_loop (fun i : Nat => i ≤ 32) (fun i => 32 - i)
    (fun i => [(2, ptr b2), (3, ptr b3), (9, ptr b9), (66, .int .i64 (i : Int))])
    (fun i => pts b9 (cl (bV ((Sha.out S2).take i ++ List.replicate (32 - i) (0 : UInt8))) 30) :: pts b3 (cl (wV S2.l) 168) :: pts b2 (cl (dC Dg.zero) 30) :: A :: F) 0 (Nat.zero_le _) rfl (by repeat (first | exact keep_nil | refine keep_cons rfl ?_)) entA ?_
  rintro i hi ih
  refine go ?_
  refine K_condP rfl rfl ?_ ?_
  · intro hlt
    have hi32 : i < 32 := by omega
    have hq4 : (i : Int) / 4 = ((i / 4 : Nat) : Int) := by omega
    have hr4 : 24 - 8 * ((i : Int) % 4) = ((24 - 8 * (i % 4) : Nat) : Int) := by omega
    have hwg : (wV S2.l)[i / 4]? = some (u32 (S2.l.getD (i / 4) 0)) := wV_get (by rw [List.getD_eq_getElem?_getD, List.getElem?_eq_getElem (show i / 4 < S2.l.length from by show i / 4 < 8; omega)]; rfl)
    have hout : (Sha.out S2)[i]? = some (UInt8.ofNat ((S2.l.getD (i / 4) 0) >>> (24 - 8 * (i % 4))).toNat) := by simp [Sha.out, hi32]
    (repeat (first | refine go1 ?_ | refine J_fork ?_ ?_ | refine J_quo rfl rfl rfl (by omega) (by omega) (by simp only [inK]; omega) ?_ | refine J_rem rfl rfl rfl (by omega) (by omega) ?_ | refine J_mul rfl rfl rfl (by simp only [inK]; omega) ?_ | refine J_arrAt (U := tab) (i / 4) rfl rfl rfl rfl rfl rfl rfl hq4 (by omega) ?_ | (refine J_isLoad ?_; refine J_loadCell (U := tab) 1 (i / 4) rfl rfl rfl (Nat.zero_add _) hwg rfl rfl ?_) | refine J_shrU (24 - 8 * (i % 4)) rfl rfl rfl hr4 (by omega) ?_ | (refine J_isConv ?_; refine J_byteOfU (U := tab) rfl rfl rfl rfl rfl rfl ?_) | refine J_arrAt (U := tab) i rfl rfl rfl rfl rfl rfl rfl rfl hi32 ?_))
    refine J_isStore ?_
    refine J_storeCell (U := tab) 0 (fun _ _ => trivial) rfl rfl rfl rfl rfl rfl rfl (by rw [bV_length, hdl i (by omega)]; omega) rfl ?_
    rw [show 0 + i = i from Nat.zero_add _, put_byte hol hout]
    refine go ?_
    refine K_again ih (i + 1) rfl (by omega) (by omega) (by repeat (first | exact keep_nil | refine keep_cons rfl ?_)) entA
  intro hge
  have hi32 : i = 32 := by omega
  subst hi32
  rw [List.take_of_length_le (by omega), show 32 - 32 = 0 from rfl, List.replicate_zero, List.append_nil, ← hsum, ← dC_bV]
  clear ih hdl hol hsum
  have hd : (dC (sumL b)).length = 32 := rfl
  have hone : allOne (dC (sumL b)) = true := by rw [dC_bV]; exact allOne_bV _
  have hdv : dV (sumL b) = .agg (dC (sumL b)).toArray := rfl
  rw [hdv] at hE
  generalize dC (sumL b) = cs at hd hone hE ⊢
  refine go ?_
  refine J_loadArr (U := tab) 0 rfl rfl rfl rfl rfl hd ?_
  refine J_storeArr (U := tab) 2 (fun _ _ => trivial) rfl rfl rfl hd (by intro e; rw [e] at hd; cases hd) hone rfl (by rw [hd]; rfl) rfl ?_
  refine go ?_
  refine K_return1C (U := tab) 2 hE Tryz.func94 rfl rfl rfl rfl rfl hd rfl ⟨rfl, rfl⟩ entA
end Go.Proofs.YtpecmnaikjbanaaGreatDoor
/- slices of slices of bytes that stand somewhere. -/
namespace Go.Proofs.YtpecmnaikjbanaaGreatDoor
open Go Go.SL
def LAt (A : HP) (v : Value) (ls : List (List UInt8)) : Prop := ∃ cs : List Value, Vw A v ls.length cs ∧ cs.length = ls.length ∧ (∃ a c, v = .slice a ls.length c ∧ ls.length ≤ c) ∧ ∀ (i : Nat) (x : List UInt8), ls[i]? = some x → ∃ cv, cs[i]? = some cv ∧ BAt A cv x
theorem LAt.mono {A B : HP} {v : Value} {ls : List (List UInt8)} (h : LAt A v ls) (hAB : ∀ h, B h → ∃ h', sub h' h ∧ A h') : LAt B v ls := by
 obtain ⟨cs, h1, h2, h3, h4⟩ := h
 refine ⟨cs, h1.mono hAB, h2, h3, fun i x hx => ?_⟩
 obtain ⟨cv, hc, hb⟩ := h4 i x hx
 exact ⟨cv, hc, hb.mono hAB⟩
theorem LAt.row {X : HP} {b : Nat} {e : TypeId} {n : Nat} {cs : List Value} {ls : List (List UInt8)} (hn : ls.length = n) (hc : cs.length = n) (h : ∀ (i : Nat) (x : List UInt8), ls[i]? = some x → ∃ cv, cs[i]? = some cv ∧ BAt X cv x) :
  LAt (Sep [pts b (cl cs e), X]) (.slice (some ⟨b, 0, none⟩) n n) ls := by
 subst hn
 refine ⟨cs, (Vw.pts (by rw [List.drop_zero, List.take_length])).mono (Sep_get (i := 0) rfl), hc, ⟨_, _, rfl, Nat.le_refl _⟩, fun i x hx => ?_⟩
 obtain ⟨cv, h1, h2⟩ := h i x hx
 exact ⟨cv, h1, h2.mono (Sep_get (i := 1) rfl)⟩
end Go.Proofs.YtpecmnaikjbanaaGreatDoor
/- Engine, part T4: the end of a call, its results wherever they lie. Nothing here names a program. -/
namespace Go.SL
open Go
inductive ResOk (P : Program) (U : Tr) (L : Lst) (H : List HP) : List ResultVar → List Value → Prop where
 | nil : ResOk P U L H [] []
 | tmp {q : Nat} {u : Value} {rs : List ResultVar} {us : List Value} (hq : fget L q = some u) (h : ResOk P U L H rs us) : ResOk P U L H (.tmp q :: rs) (u :: us)
 | agg {p b : Nat} {t e : TypeId} {ty' : Ty} {cs : List Value} {rs : List ResultVar} {us : List Value} (i : Nat) (hp : fget L p = some (.pointer (some ⟨b, 0, none⟩))) (ht : U.get t = some ty') (hg : ty'.isAgg = true) (hi : getL H i = some (pts b (cl cs e))) (hl : cs.length = ty'.info.size) (h : ResOk P U L H rs us) : ResOk P U L H (.cell p t :: rs) (.agg cs.toArray :: us)
 | one {p b : Nat} {t e : TypeId} {ty' : Ty} {u : Value} {rs : List ResultVar} {us : List Value} (i : Nat) (hp : fget L p = some (.pointer (some ⟨b, 0, none⟩))) (ht : U.get t = some ty') (hg : ty'.isAgg = false) (hi : getL H i = some (pts b (cl [u] e))) (h : ResOk P U L H rs us) : ResOk P U L H (.cell p t :: rs) (u :: us)
theorem ResOk.run {P : Program} {U : Tr} [hU : TabOk P U] {n : Nat} {G : Glob} {L : Lst} {H : List HP} {a : Act} {w : World} (ha : Has n L a) (hw : Sat G w H) : ∀ {rs us}, ResOk P U L H rs us → (rs.mapM (resF a.tmps)).run P w = .ok us w := by
 intro rs us h
 induction h with
 | nil => simp
 | @tmp q u rs us hq h ih =>
  have g2 : a.tmps.getD q undef = u := by rw [Array.getD_eq_getD_getElem?, ha.2.2 _ _ hq]; rfl
  simp only [List.mapM_cons, Sem.run_bind, resF, g2, Sem.run_pure, Result.andThen_ok, ih]
 | @agg p b t e ty' cs rs us i hp ht hg hi hl h ih =>
  have hc : ∀ j v, cs[j]? = some v → w.cell? ⟨b, 0 + j, none⟩ = some v := fun j v hj => by rw [cell_of_block (hw.getP hi), Nat.zero_add]; exact hj
  have hld := run_loadAgg (P := P) (w := w) ht hg hl hc
  have hld' : (loadVar t ⟨b, 0, none⟩).run P w = .ok (.agg cs.toArray) w := by simpa [Instr.loadAt, Instr.sureAddr] using hld
  have g1 : a.tmps.getD p undef = .pointer (some ⟨b, 0, none⟩) := by simp [Array.getD_eq_getD_getElem?, ha.2.2 p _ hp]
  simp only [List.mapM_cons, Sem.run_bind, resF, g1, asAddr, Sem.run_pure, Result.andThen_ok, hld', ih]
 | @one p b t e ty' u rs us i hp ht hg hi h ih =>
  have g1 := run_cell (P := P) i ha hw hp ht hg hi
  simp only [List.mapM_cons, Sem.run_bind, g1, Sem.run_pure, Result.andThen_ok, ih]
theorem K_returnV {P : Program} {U : Tr} [hU : TabOk P U] {f : FuncId} {n : Nat} {R : Ending → World → Prop} {G : Glob} {ds : List Nat} {k k0 : List Item} {L : Lst} {H H' : List HP} {fn : Func} {F : List HP} {Post : Value → List HP → Prop} {us : List Value} {Hq : List HP}
  (hR : Ends R G F Post) (hf : P.funcs[f]? = some fn) (hk : advK 1000 k0 = .mk (.code .ret :: k)) (he : Ent H (ds.map (fun r => pts r (.deferred (some []))) ++ H'))
  (hr : ResOk P U L H' fn.results.toList us) (hpost : Post (oneOrTuple us) Hq) (he2 : Ent H' (Hq ++ F)) : K P f n R { G with ds := ds } k0 L H := by
 refine K_retW hR hf hk he (fun a w ha hw => ?_) hpost he2
 have h1 := hr.run (P := P) ha hw
 rw [results_eq, Array.mapM_eq_mapM_toList]
 simp only [Sem.run_bind, Sem.run_map, h1, Sem.run_pure, Result.andThen_ok]
 match us with
 | [] => simp [oneOrTuple]
 | [v] => simp [oneOrTuple]
 | v :: u :: vs => simp [oneOrTuple]
section
variable {P : Program} {U : Tr} [hU : TabOk P U] {f : FuncId} {n : Nat} {R : Ending → World → Prop} {G : Glob} {k : List Item} {L : Lst} {H H' : List HP} {S : World → Prop} {all : Array Oper} {rest : Pl}
 {ty : TypeId} {pos : String} {af : Array Edge} {gd : Option (Nat × Bool)} {m : Bool} {d : Tmp}
theorem J_slice3T {t elem : TypeId} {ty' te : Ty} {x lo hi mx : Operand} {a0 : Option Addr} {len cap : Nat} {p q r : Int} {j1 j2 j3 : IntKind} (hd : Nat.blt d n = true)
  (ht : U.get t = some ty') (hu : ty'.und = .slice elem) (he : U.get elem = some te) (hx : ev L x = some (.slice a0 len cap)) (hlo : ev L lo = some (.int j1 p)) (hhi : ev L hi = some (.int j2 q)) (hmx : ev L mx = some (.int j3 r)) (h0 : 0 ≤ p) (hpq : p ≤ q) (hqr : q ≤ r) (hrc : r ≤ (cap : Int))
  (h : J P f n R G S all rest k ((d, .slice (sliceAt a0 r.toNat p.toNat te.info.size) (q.toNat - p.toNat) (r.toNat - p.toNat)) :: L) H) :
  J P f n R G S all (.cons m true ⟨some d, .slice t x (some lo) (some hi) (some mx), ty, pos, af, gd⟩ rest) k L H := by
 refine J_pure hd (fun a ha w => ?_) h
 have hb : (Instr.sliceBounds true len cap (some (a.eval lo)) (some (a.eval hi)) (some (a.eval mx))).run P w = .ok (p.toNat, q.toNat, r.toNat) w := by
  unfold Instr.sliceBounds
  have e1 : 0 ≤ r ∧ r ≤ (cap : Int) := ⟨by omega, hrc⟩
  have e2 : 0 ≤ q ∧ q ≤ ((r.toNat : Nat) : Int) := ⟨by omega, by omega⟩
  have e3 : 0 ≤ p ∧ p ≤ ((q.toNat : Nat) : Int) := ⟨by omega, by omega⟩
  have e4 : q ≤ max r 0 := by omega
  have e5 : p ≤ max q 0 := by omega
  have e6 : 0 ≤ q := by omega
  simp [ha.ev hlo, ha.ev hhi, ha.ev hmx, Instr.sliceBound, asIntOf, e1, e2, e3, e4, e5, e6, h0]
 simp only [execOp, ha.ev hx, Instr.sliceAt, Sem.run_bind, run_underlying ht, Result.andThen_ok, hu, Instr.slice, Option.map_some, hb, run_sizeOf he, Sem.run_pure, sliceAt]
 by_cases hc : p.toNat = r.toNat
 ·simp [hc]
 ·simp [hc]
  intro hr0
  exfalso; omega
end
end Go.SL
/- digest, part e: hashes of parts; hashes as signs, and back. -/
namespace Go.Proofs.YtpecmnaikjbanaaGreatDoor
open Go Go.SL
attribute [local irreducible] J K Ctr Ends pts slc mapR mapI sbRow stock arrS loopP CtrY Sha.chunks Sha.chunk Sha.rounds Sha.sched sumL
theorem partsL_take {tag : UInt8} {ps : List (List UInt8)} {i : Nat} {p : List UInt8} (h : ps[i]? = some p) : partsL tag (ps.take (i + 1)) = partsL tag (ps.take i) ++ (le8 p.length ++ p) := by
 unfold partsL
 rw [List.take_add_one, h]
 simp
theorem partsL_le (tag : UInt8) (ps : List (List UInt8)) (i : Nat) : (partsL tag (ps.take i)).length ≤ (partsL tag ps).length := by
 conv => rhs; rw [← List.take_append_drop i ps]
 unfold partsL
 rw [List.flatMap_append]
 simp only [List.length_cons, List.length_append]; omega
theorem partsL_count (tag : UInt8) (ps : List (List UInt8)) : ps.length ≤ (partsL tag ps).length := by
 unfold partsL
 induction ps with
 | nil => simp
 | cons p ps ih =>
  have h8 : (le8 p.length).length = 8 := by simp [le8]
  simp only [List.flatMap_cons, List.length_cons, List.length_append, h8] at ih ⊢
  omega
theorem le8_len (n : Nat) : (le8 n).length = 8 := by simp [le8]
theorem le8_take {n i : Nat} (h : i < 8) : (le8 n).take (i + 1) = (le8 n).take i ++ [UInt8.ofNat (n / 2 ^ (8 * i))] := by
 rw [List.take_add_one]; simp [le8, h]
set_option maxRecDepth 20000 in
theorem Tagged_any (A : HP) (hK : KAt A) (tag : UInt8) (v : Value) (ps : List (List UInt8)) (hv : LAt A v ps) (hl : (partsL tag ps).length ≤ 1000000000) :
  Ctr Tryz.prog 162 [u8 tag, v] [A] (fun r H => r = dV (taggedL tag ps) ∧ H = [A]) := by
 obtain ⟨cs, hvw, hcl, ⟨a, c, rfl, hc⟩, hel⟩ := hv
 have hcnt := partsL_count tag ps
 refine Ctr.enter Tryz.func162 (by kernel_rfl) rfl Tryz.ntmps162 rfl rfl ?_
 intro G F R hE
 refine K_regionA rfl ?_
 refine J_alloc (U := tab) rfl rfl rfl (fun _ _ _ => trivial) ?_
 intro b4
 (refine goR ?_)
 refine K_regionA rfl ?_
 (refine goR ?_)
 refine J_buildSlice1 (U := tab) (cs := bV [tag]) rfl rfl rfl rfl rfl rfl rfl rfl rfl (fun _ _ _ => trivial) ?_
 intro b0
 refine go ?_
 refine K_ent (slc_row 5 1 b0 1 1 (bV [tag]) [] _ rfl (Nat.le_refl _) (by simp [bV])) ?_
 refine K_loop (fun y : Nat × Option Addr × Nat => y.1 ≤ ps.length) (fun y => ps.length - y.1)
  (fun y => [(4, ptr b4), (11, .slice a ps.length c), (12, .int .i64 (ps.length : Int)), (13, .int .i64 (y.1 : Int)), (5, .slice y.2.1 (partsL tag (ps.take y.1)).length y.2.2)])
  (fun y => slc 5 1 (.slice y.2.1 (partsL tag (ps.take y.1)).length y.2.2) (partsL tag (ps.take y.1)).length (bV (partsL tag (ps.take y.1))) :: A :: pts b4 (cl (dC Dg.zero) 30) :: F) (0, some ⟨b0, 0, none⟩, 1) (Nat.zero_le _) rfl (by repeat (first | exact keep_nil | refine keep_cons rfl ?_)) entA ?_
 rintro ⟨i, a1, c1⟩ hi ih
 simp only at hi
 dsimp only
 refine go ?_
 refine K_condP rfl rfl ?_ ?_
 ·intro hlt
  have hil : i < ps.length := by omega
  obtain ⟨p, hp⟩ : ∃ p, ps[i]? = some p := ⟨ps[i], List.getElem?_eq_getElem hil⟩
  obtain ⟨cv, hcv, hb⟩ := hel i p hp
  obtain ⟨b1, o1, c0, he0⟩ := hvw.some (by intro h; rw [h] at hcv; simp at hcv)
  simp only [Value.slice.injEq] at he0
  obtain ⟨rfl, -, rfl⟩ := he0
  have htk := partsL_take (tag := tag) hp
  have hle := partsL_le tag ps (i + 1)
  have hlen8 := le8_len p.length
  rw [htk] at hle
  simp only [List.length_append] at hle
  obtain ⟨T0, hT0⟩ : ∃ T0, T0 = partsL tag (ps.take i) := ⟨_, rfl⟩
  rw [← hT0] at htk hle ⊢
  obtain ⟨ax, cx, rfl, hcx⟩ := hb.2
  have hl3 : ∀ j : Nat, j ≤ 8 → (T0 ++ (le8 p.length).take j).length = T0.length + j := fun j hj => by
   rw [List.length_append, List.length_take]; omega
  refine go ?_
  refine J_at1 (U := tab) i rfl rfl rfl rfl rfl rfl rfl rfl hil ?_
  refine J_isLoad ?_
  refine J_loadAt (U := tab) 1 i rfl rfl rfl hvw rfl hcv rfl rfl ?_
  refine go ?_
  refine K_loop (fun y : Nat × Option Addr × Nat => y.1 ≤ 8) (fun y => 8 - y.1)
   (fun y => [(4, ptr b4), (7, .slice ax p.length cx), (11, .slice (some ⟨b1, o1, none⟩) ps.length c), (12, .int .i64 (ps.length : Int)), (13, .int .i64 (i : Int)), (5, .slice y.2.1 (T0 ++ (le8 p.length).take y.1).length y.2.2), (17, .int .i64 (y.1 : Int))])
   (fun y => slc 5 1 (.slice y.2.1 (T0 ++ (le8 p.length).take y.1).length y.2.2) (T0 ++ (le8 p.length).take y.1).length (bV (T0 ++ (le8 p.length).take y.1)) :: A :: pts b4 (cl (dC Dg.zero) 30) :: F) (0, a1, c1) (Nat.zero_le _) rfl (by simp only [List.take_zero, List.append_nil]; exact (by repeat (first | exact keep_nil | refine keep_cons rfl ?_))) (by simp only [List.take_zero, List.append_nil]; exact entA) ?_
  rintro ⟨j, a2, c2⟩ hj ih2
  simp only at hj
  have hlj := hl3 j hj
  dsimp only
  refine go ?_
  refine K_condP rfl rfl ?_ ?_
  ·intro hj8
   have hj8' : j < 8 := by omega
   have htj := le8_take (n := p.length) hj8'
   refine go ?_
   refine J_mul rfl rfl rfl (by simp only [inK]; omega) ?_
   (first | refine J_slot 25 ((.int .i64 ((8 * j : Nat) : Int))) rfl ((congrArg (Value.int .i64) (by omega))) ?_ | refine K_slot 25 ((.int .i64 ((8 * j : Nat) : Int))) rfl ((congrArg (Value.int .i64) (by omega))) ?_)
   refine J_shr rfl rfl rfl (by omega) ?_
   (first | refine J_slot 26 ((.int .u64 ((p.length / 2 ^ (8 * j) : Nat) : Int))) rfl ((congrArg (Value.int .u64) (by rw [Int.toNat_natCast, show min (8 * j) IntKind.u64.bits = 8 * j from by show min (8 * j) 64 = _; omega]; simp))) ?_ | refine K_slot 26 ((.int .u64 ((p.length / 2 ^ (8 * j) : Nat) : Int))) rfl ((congrArg (Value.int .u64) (by rw [Int.toNat_natCast, show min (8 * j) IntKind.u64.bits = 8 * j from by show min (8 * j) 64 = _; omega]; simp))) ?_)
   refine J_isConv ?_
   refine J_convW (U := tab) rfl rfl rfl rfl rfl rfl ?_
   (first | refine J_slot 27 ((u8 (UInt8.ofNat (p.length / 2 ^ (8 * j))))) rfl ((conv_u8 _)) ?_ | refine K_slot 27 ((u8 (UInt8.ofNat (p.length / 2 ^ (8 * j))))) rfl ((conv_u8 _)) ?_)
   (refine J_buildSlice1 (U := tab) (cs := bV [(UInt8.ofNat (p.length / 2 ^ (8 * j)))]) rfl rfl rfl rfl rfl rfl rfl rfl rfl (fun _ _ _ => trivial) ?_; intro bA; refine J_append (U := tab) (mm := 1) (news := bV [(UInt8.ofNat (p.length / 2 ^ (8 * j)))]) 1 0 rfl rfl rfl rfl rfl rfl rfl rfl rfl rfl rfl rfl (Vw.pts rfl) rfl (bV_one _) (by (rw [hlj]; omega)) (by show (_ + _) * 1 ≤ _; (rw [hlj]; omega)) (fun _ => rfl) (fun _ _ _ => trivial) ?_; intro vA; rw [show bV ((T0 ++ (le8 p.length).take j)) ++ bV [(UInt8.ofNat (p.length / 2 ^ (8 * j)))] = bV (((T0 ++ (le8 p.length).take j)) ++ [(UInt8.ofNat (p.length / 2 ^ (8 * j)))]) from by simp [bV], show ((T0 ++ (le8 p.length).take j)).length + 1 = (((T0 ++ (le8 p.length).take j)) ++ [(UInt8.ofNat (p.length / 2 ^ (8 * j)))]).length from (@List.length_append _ ((T0 ++ (le8 p.length).take j)) [(UInt8.ofNat (p.length / 2 ^ (8 * j)))]).symm]; (first | refine J_shape 1 rfl ?_ | refine K_shape 1 rfl ?_); rintro aA cA rfl)
   rw [show T0 ++ (le8 p.length).take j ++ [UInt8.ofNat (p.length / 2 ^ (8 * j))] = T0 ++ (le8 p.length).take (j + 1) from by rw [htj, List.append_assoc]]
   refine go ?_
   refine K_again ih2 (j + 1, aA, cA) rfl (by simp only; omega) (by simp only; omega) (by repeat (first | exact keep_nil | refine keep_cons rfl ?_)) entA
  intro hge
  have hj8 : j = 8 := by omega
  subst hj8
  rw [List.take_of_length_le (by omega)] at hlj ⊢
  refine go ?_
  (refine J_append (U := tab) (mm := (p).length) (news := bV (p)) 0 1 rfl rfl rfl rfl rfl rfl rfl rfl rfl rfl rfl rfl (hb.1) (by show _ = _ * 1; rw [bV_length]; omega) (bV_one _) (by (rw [hlj]; omega)) (by show (_ + _) * 1 ≤ _; (rw [hlj]; omega)) (fun _ => rfl) (fun _ _ _ => trivial) ?_; intro vA; rw [show bV ((T0 ++ le8 p.length)) ++ bV (p) = bV (((T0 ++ le8 p.length)) ++ (p)) from by simp [bV], show ((T0 ++ le8 p.length)).length + (p).length = (((T0 ++ le8 p.length)) ++ (p)).length from (@List.length_append _ ((T0 ++ le8 p.length)) (p)).symm]; (first | refine J_shape 0 rfl ?_ | refine K_shape 0 rfl ?_); rintro aA cA rfl)
  rw [show T0 ++ le8 p.length ++ p = partsL tag (ps.take (i + 1)) from by rw [htk, List.append_assoc]]
  refine go ?_
  refine K_again ih (i + 1, aA, cA) rfl (by simp only; omega) (by simp only; omega) (by repeat (first | exact keep_nil | refine keep_cons rfl ?_)) entA
 intro hge
 have hi' : i = ps.length := by omega
 subst hi'
 rw [List.take_length]
 refine K_slcB (bs := partsL tag ps) 0 rfl ?_
 intro hvT
 refine K_ent (Ent.resep [_, _] _) ?_
 refine go ?_
 ((try refine go ?_); first | refine J_callE rfl rfl rfl rfl (Sum_any _ (hK.mono (Sep_get (i := 1) rfl)) _ (partsL tag ps) (hvT.mono (Sep_get (i := 0) rfl)) hl) entA ?_ (fun _ _ _ _ _ => trivial) | refine J_call0E rfl rfl rfl (Sum_any _ (hK.mono (Sep_get (i := 1) rfl)) _ (partsL tag ps) (hvT.mono (Sep_get (i := 0) rfl)) hl) entA ?_ (fun _ _ _ _ _ => trivial))
 rintro _ _ ⟨rfl, rfl⟩
 refine J_ent (Ent.unsep _ _) ?_
 refine go ?_
 refine K_return1C (U := tab) 2 hE Tryz.func162 rfl rfl rfl rfl rfl rfl rfl ⟨rfl, rfl⟩ entA
theorem and15_u8 (x : Nat) (hx : x < 256) : IntKind.u8.wrap ((BitVec.ofInt IntKind.u8.bits (x : Int) &&& BitVec.ofInt IntKind.u8.bits 15).toNat : Int) = ((x % 16 : Nat) : Int) := by
 have e2 : (BitVec.ofInt IntKind.u8.bits (15 : Int)).toNat = 2 ^ 4 - 1 := by decide
 rw [BitVec.toNat_and, ofNatU8 hx, e2, Nat.and_two_pow_sub_one_eq_mod]
 exact wrap_in (by simp only [inK]; omega)
theorem idxHex (n : Nat) (h : n < 16) : byteAt ⟨#[48, 49, 50, 51, 52, 53, 54, 55, 56, 57, 97, 98, 99, 100, 101, 102]⟩ n = sgn n := by
 have : ∀ n : Nat, n < 16 → byteAt ⟨#[48, 49, 50, 51, 52, 53, 54, 55, 56, 57, 97, 98, 99, 100, 101, 102]⟩ n = sgn n := by decide
 exact this n h
theorem textL_take {d : Dg} {i : Nat} (h : i < 32) : (textL d).take (2 * (i + 1)) = (textL d).take (2 * i) ++ [sgn ((d.at i).toNat / 16), sgn ((d.at i).toNat % 16)] := by
 have e1 : sgnAt d (2 * i) = sgn ((d.at i).toNat / 16) := by unfold sgnAt; rw [if_pos (by omega), show 2 * i / 2 = i from by omega]
 have e2 : sgnAt d (2 * i + 1) = sgn ((d.at i).toNat % 16) := by unfold sgnAt; rw [if_neg (by omega), show (2 * i + 1) / 2 = i from by omega]
 rw [show 2 * (i + 1) = 2 * i + 1 + 1 from by omega, List.take_add_one, List.take_add_one, textL_get d (by omega), textL_get d (by omega), e1, e2]
 simp
theorem dC_get (d : Dg) {i : Nat} (h : i < 32) : (dC d)[i]? = some (u8 (d.at i)) := by
 rw [dC_bV]
 exact bV_get (d.at_get h)
set_option maxRecDepth 20000 in
theorem Text_any (d : Dg) : Ctr Tryz.prog 98 [dV d] [] (fun r H => r = .string (strOf (textL d)) ∧ H = []) := by
 unfold dV
 refine Ctr.enter Tryz.func98 (by kernel_rfl) rfl Tryz.ntmps98 rfl rfl ?_
 intro G F R hE
 refine K_regionA rfl ?_
 refine J_box rfl rfl (fun _ _ _ => trivial) ?_
 intro b1
 refine go ?_
 refine J_makeSlice (U := tab) (p := 0) (q := 64) rfl rfl rfl rfl rfl rfl rfl rfl rfl (by omega) (by omega) (by decide) (fun _ _ _ => trivial) ?_
 intro b3
 refine go ?_
 have hent := slc_row 5 1 b3 0 64 [] (List.replicate 64 (u8 0)) (pts b1 (cl (dC d) 30) :: F) rfl (by omega) (by rw [List.length_replicate]; exact Nat.le_add_left _ _)
 refine J_ent hent ?_
 refine J_loadArr (U := tab) 1 rfl rfl rfl rfl rfl rfl ?_
 refine go ?_
 refine K_loop (fun y : Nat × Option Addr × Nat => y.1 ≤ 32) (fun y => 32 - y.1)
  (fun y => [(3, .slice y.2.1 ((textL d).take (2 * y.1)).length y.2.2), (7, dV d), (8, .int .i64 (y.1 : Int))])
  (fun y => slc 5 1 (.slice y.2.1 ((textL d).take (2 * y.1)).length y.2.2) ((textL d).take (2 * y.1)).length (bV ((textL d).take (2 * y.1))) :: F) (0, some ⟨b3, 0, none⟩, 64) (Nat.zero_le _) rfl (by repeat (first | exact keep_nil | refine keep_cons rfl ?_)) entA ?_
 rintro ⟨i, a1, c1⟩ hi ih
 simp only at hi
 dsimp only
 have hlen : ((textL d).take (2 * i)).length = 2 * i := by rw [List.length_take, textL_len]; omega
 refine go ?_
 refine K_condP rfl rfl ?_ ?_
 ·intro hlt
  have hi32 : i < 32 := by omega
  have hg := dC_get d hi32
  have htk := textL_take (d := d) hi32
  have hx := (d.at i).toNat_lt
  unfold dV
  refine go ?_
  refine J_indexAgg (U := tab) rfl rfl rfl rfl rfl rfl rfl rfl (by omega) (by omega) (show (dC d).toArray.toList[((i : Nat) : Int).toNat]? = some (u8 (d.at i)) from by rw [Int.toNat_natCast]; exact hg) ?_
  generalize d.at i = x at htk hx
  refine go ?_
  refine K_drawA (fun w => Sat G w ([])) (.st 0 (.st 1 (.st 2 (.st 3 (.st 4 (.st 5 (.st 6 (.act 7 (.act 8 (.st 9 .nil)))))))))) rfl (by kernel_rfl) (by kernel_rfl) (by kernel_rfl) (fun w hw => hw.ent entA) ?_
  refine go ?_
  refine J_shr rfl rfl rfl (by omega) ?_
  (first | refine J_slot 13 ((.int .u8 ((x.toNat / 16 : Nat) : Int))) rfl ((congrArg (Value.int .u8) (by show (x.toNat : Int) / 2 ^ 4 = _; omega))) ?_ | refine K_slot 13 ((.int .u8 ((x.toNat / 16 : Nat) : Int))) rfl ((congrArg (Value.int .u8) (by show (x.toNat : Int) / 2 ^ 4 = _; omega))) ?_)
  refine J_indexStr (U := tab) rfl rfl rfl rfl rfl (by omega) (by show ((x.toNat / 16 : Nat) : Int) < 16; omega) ?_
  (first | refine J_slot 14 ((u8 (sgn (x.toNat / 16)))) rfl ((congrArg u8 (idxHex (x.toNat / 16) (by omega)))) ?_ | refine K_slot 14 ((u8 (sgn (x.toNat / 16)))) rfl ((congrArg u8 (idxHex (x.toNat / 16) (by omega)))) ?_)
  refine go ?_
  refine go ?_
  (first | refine J_slot 16 ((.int .u8 ((x.toNat % 16 : Nat) : Int))) rfl ((congrArg (Value.int .u8) (and15_u8 x.toNat hx))) ?_ | refine K_slot 16 ((.int .u8 ((x.toNat % 16 : Nat) : Int))) rfl ((congrArg (Value.int .u8) (and15_u8 x.toNat hx))) ?_)
  refine J_indexStr (U := tab) rfl rfl rfl rfl rfl (by omega) (by show ((x.toNat % 16 : Nat) : Int) < 16; omega) ?_
  (first | refine J_slot 17 ((u8 (sgn (x.toNat % 16)))) rfl ((congrArg u8 (idxHex (x.toNat % 16) (by omega)))) ?_ | refine K_slot 17 ((u8 (sgn (x.toNat % 16)))) rfl ((congrArg u8 (idxHex (x.toNat % 16) (by omega)))) ?_)
  refine J_buildSlice1 (U := tab) (cs := bV [sgn (x.toNat / 16), sgn (x.toNat % 16)]) rfl rfl rfl rfl rfl rfl rfl rfl rfl (fun _ _ hw => hw.ent entA) ?_
  intro bA
  refine J_append (U := tab) (mm := 2) (news := bV [sgn (x.toNat / 16), sgn (x.toNat % 16)]) 1 0 rfl rfl rfl rfl rfl rfl rfl rfl rfl rfl rfl rfl (Vw.pts rfl) rfl (bV_one _) (by rw [hlen]; omega) (by show (_ + _) * 1 ≤ _; rw [hlen]; omega) (fun _ => rfl) (fun _ _ hw => hw.ent entA) ?_
  intro vA
  rw [show bV ((textL d).take (2 * i)) ++ bV [sgn (x.toNat / 16), sgn (x.toNat % 16)] = bV ((textL d).take (2 * (i + 1))) from by rw [htk]; simp [bV], show ((textL d).take (2 * i)).length + 2 = ((textL d).take (2 * (i + 1))).length from by rw [htk, List.length_append]; rfl]
  (first | refine J_shape 1 rfl ?_ | refine K_shape 1 rfl ?_)
  rintro aA cA rfl
  refine go ?_
  refine K_again ih (i + 1, aA, cA) rfl (by simp only; omega) (by simp only; omega) (by repeat (first | exact keep_nil | refine keep_cons rfl ?_)) entA
 intro hge
 have hi32 : i = 32 := by omega
 subst hi32
 rw [List.take_of_length_le (by rw [textL_len]; omega)]
 refine K_slcB (bs := textL d) 0 rfl ?_
 intro hvT
 refine go ?_
 refine J_toStr (U := tab) 0 rfl rfl rfl rfl rfl rfl rfl rfl rfl hvT.1 ?_
 refine go ?_
 (first | refine K_return hE Tryz.func98 rfl _ rfl ⟨rfl, rfl⟩ entA | refine K_fallEnd hE Tryz.func98 rfl _ rfl ⟨rfl, rfl⟩ entA)
theorem value_any (c : UInt8) : Ctr Tryz.prog 148 [u8 c] [] (fun r H => r = .tuple #[.int .u8 (((hexv c).getD 0 : Nat) : Int), .bool (hexv c).isSome] ∧ H = []) := by
 have hx := c.toNat_lt
 have h1 : (48 ≤ c.toNat ∧ c.toNat ≤ 57) → Value.tuple #[.int .u8 ((c.toNat : Int) - 48), .bool true] = .tuple #[.int .u8 (((hexv c).getD 0 : Nat) : Int), .bool (hexv c).isSome] := fun h => by
  unfold hexv; rw [if_pos h]; simp only [Option.getD_some, Option.isSome_some]; rw [show ((c.toNat - 48 : Nat) : Int) = (c.toNat : Int) - 48 from by omega]
 have h2 : (97 ≤ c.toNat ∧ c.toNat ≤ 102) → Value.tuple #[.int .u8 ((c.toNat : Int) - 97 + 10), .bool true] = .tuple #[.int .u8 (((hexv c).getD 0 : Nat) : Int), .bool (hexv c).isSome] := fun h => by
  unfold hexv; rw [if_neg (by omega), if_pos h]; simp only [Option.getD_some, Option.isSome_some]; rw [show ((c.toNat - 87 : Nat) : Int) = (c.toNat : Int) - 97 + 10 from by omega]
 have h3 : ¬ (48 ≤ c.toNat ∧ c.toNat ≤ 57) ∧ ¬ (97 ≤ c.toNat ∧ c.toNat ≤ 102) → Value.tuple #[.int .u8 0, .bool false] = .tuple #[.int .u8 (((hexv c).getD 0 : Nat) : Int), .bool (hexv c).isSome] := fun h => by
  unfold hexv; rw [if_neg h.1, if_neg h.2]; rfl
 unfold u8
 refine Ctr.enter Tryz.func148 (by kernel_rfl) rfl Tryz.ntmps148 rfl rfl ?_
 intro G F R hE
 repeat' (first | (with_reducible intro _hh) | refine go1 ?_ | refine J_fork ?_ ?_ | refine J_gsP rfl rfl rfl rfl ?_ ?_ | refine K_condP rfl rfl ?_ ?_)
 all_goals (first | (first | refine K_return hE Tryz.func148 rfl _ rfl ⟨h1 ⟨by omega, by omega⟩, rfl⟩ entA | refine K_fallEnd hE Tryz.func148 rfl _ rfl ⟨h1 ⟨by omega, by omega⟩, rfl⟩ entA) | (first | refine K_return hE Tryz.func148 rfl _ rfl ⟨h2 ⟨by omega, by omega⟩, rfl⟩ entA | refine K_fallEnd hE Tryz.func148 rfl _ rfl ⟨h2 ⟨by omega, by omega⟩, rfl⟩ entA) | (first | refine K_return hE Tryz.func148 rfl _ rfl ⟨h3 (by omega), rfl⟩ entA | refine K_fallEnd hE Tryz.func148 rfl _ rfl ⟨h3 (by omega), rfl⟩ entA))
theorem pdB_old (s : List UInt8) {i : Nat} (h : i < 64) : (pdB s i)[i / 2]? = some (UInt8.ofNat (if i % 2 = 0 then 0 else hv0 s (i - 1))) := by
 rw [pdB_get s i (by omega)]
 by_cases hm : i % 2 = 0
 ·rw [if_neg (by omega), if_neg (by omega), if_pos hm]
 ·rw [if_neg (by omega), if_pos (by omega), if_neg hm, show 2 * (i / 2) = i - 1 from by omega]
theorem pdB_step (s : List UInt8) {i : Nat} (h : i < 64) : (pdB s i).set (i / 2) (UInt8.ofNat (16 * (if i % 2 = 0 then 0 else hv0 s (i - 1)) + hv0 s i)) = pdB s (i + 1) := by
 apply List.ext_getElem?
 intro j
 rw [List.getElem?_set, pdB_len]
 rcases Nat.lt_or_ge j 32 with hj | hj
 ·rw [pdB_get s i hj, pdB_get s (i + 1) hj]
  by_cases e : i / 2 = j
  ·subst e
   rw [if_pos rfl, if_pos hj]
   congr 2
   by_cases hm : i % 2 = 0
   ·rw [if_pos hm, if_neg (by omega), if_pos (by omega), show 2 * (i / 2) = i from by omega]; omega
   ·rw [if_neg hm, if_pos (by omega), show 2 * (i / 2) = i - 1 from by omega, show i - 1 + 1 = i from by omega]
  ·rw [if_neg e]
   congr 2
   have e1 : (2 * j + 1 < i) ↔ (2 * j + 1 < i + 1) := by omega
   have e2 : ¬ 2 * j + 1 < i → ((2 * j < i) ↔ (2 * j < i + 1)) := by omega
   by_cases h1 : 2 * j + 1 < i
   ·rw [if_pos h1, if_pos (e1.1 h1)]
   ·rw [if_neg h1, if_neg (fun h => h1 (e1.2 h))]
    by_cases h2 : 2 * j < i
    ·rw [if_pos h2, if_pos ((e2 h1).1 h2)]
    ·rw [if_neg h2, if_neg (fun h => h2 ((e2 h1).2 h))]
 ·rw [if_neg (by omega), List.getElem?_eq_none (by rw [pdB_len]; exact hj), List.getElem?_eq_none (by rw [pdB_len]; exact hj)]
theorem or4_u8 (x y : Nat) (hx : x < 16) (hy : y < 16) : IntKind.u8.wrap ((BitVec.ofInt IntKind.u8.bits ((16 * x : Nat) : Int) ||| BitVec.ofInt IntKind.u8.bits (y : Int)).toNat : Int) = ((16 * x + y : Nat) : Int) := by
 have h := or_disj (a := y) (c := x) (k := 4) (by omega)
 rw [BitVec.toNat_or, ofNatU8 (by omega), ofNatU8 (by omega), Nat.or_comm, show 16 * x = x * 2 ^ 4 from by omega, h]
 exact (wrap_in (by simp only [inK]; omega)).trans (congrArg _ (by omega))
set_option maxRecDepth 20000 in
theorem Parse_any (s : ByteArray) : Ctr Tryz.prog 111 [.string s] [] (fun r H => r = (match parseL s.data.toList with
    | some d => .tuple #[dV d, .int .i64 0]
    | none => .tuple #[dV Dg.zero, .int .i64 2]) ∧ H = []) := by
  obtain ⟨l, hl⟩ : ∃ l, l = s.data.toList := ⟨_, rfl⟩
  have hsz : s.size = l.length := by rw [hl]; rfl
  rw [← hl]
  refine Ctr.enter Tryz.func111 (by kernel_rfl) rfl Tryz.ntmps111 rfl rfl ?_
  intro G F R hE
  refine K_regionA rfl ?_
  refine J_alloc (U := tab) rfl rfl rfl (fun _ _ _ => trivial) ?_
  intro b2
  (refine goR ?_)
  refine K_regionA rfl ?_
  refine J_alloc (U := tab) rfl rfl rfl (fun _ _ _ => trivial) ?_
  intro b4
  refine go ?_
  refine K_condP rfl rfl ?_ ?_
  · intro hne
    have hp : parseL l = none := by unfold parseL; rw [if_neg (by intro h; apply hne; rw [hsz, h.1]; rfl)]
    rw [hp] at hE
    refine K_regionA rfl ?_
    refine J_loadArr (U := tab) 0 rfl rfl rfl rfl rfl rfl ?_
    refine go ?_
    (refine K_noMarks hE ?_; apply K_returnV (U := tab) hE Tryz.func111 rfl (Ent.refl _); (repeat (first | exact ResOk.nil | apply ResOk.tmp rfl | apply ResOk.agg 0 rfl rfl rfl rfl rfl | apply ResOk.agg 1 rfl rfl rfl rfl rfl | apply ResOk.agg 2 rfl rfl rfl rfl rfl | apply ResOk.agg 3 rfl rfl rfl rfl rfl | apply ResOk.agg 4 rfl rfl rfl rfl rfl | apply ResOk.agg 5 rfl rfl rfl rfl rfl | apply ResOk.agg 6 rfl rfl rfl rfl rfl | apply ResOk.agg 7 rfl rfl rfl rfl rfl | apply ResOk.agg 8 rfl rfl rfl rfl rfl | apply ResOk.one 0 rfl rfl rfl rfl | apply ResOk.one 1 rfl rfl rfl rfl | apply ResOk.one 2 rfl rfl rfl rfl | apply ResOk.one 3 rfl rfl rfl rfl | apply ResOk.one 4 rfl rfl rfl rfl | apply ResOk.one 5 rfl rfl rfl rfl | apply ResOk.one 6 rfl rfl rfl rfl)); exact ⟨rfl, rfl⟩; exact entA)
  intro heq
  have h64 : l.length = 64 := by rw [hsz] at heq; omega
  have h8 : ∀ x : UInt8, x.toNat < 256 := fun x => x.toNat_lt
  refine go ?_
  (first | refine J_slot 13 ((.int .i64 64)) rfl ((congrArg (Value.int .i64) (by rw [hsz]; omega))) ?_ | refine K_slot 13 ((.int .i64 64)) rfl ((congrArg (Value.int .i64) (by rw [hsz]; omega))) ?_)
  refine K_loop (fun i : Nat => i ≤ 64 ∧ ∀ j, j < i → hexv (l.getD j 0) ≠ none) (fun i => 64 - i)
    (fun i => [(0, .string s), (2, ptr b2), (3, .int .i64 0), (4, ptr b4), (13, .int .i64 64), (14, .int .i64 (i : Int))])
    (fun i => pts b4 (cl (bV (pdB l i)) 30) :: pts b2 (cl (dC Dg.zero) 30) :: F) 0 ⟨Nat.zero_le _, fun j hj => by omega⟩ rfl (by repeat (first | exact keep_nil | refine keep_cons rfl ?_)) (by rw [pdB_zero]; exact entA) ?_
  rintro i ⟨hi, hgood⟩ ih
  refine go ?_
  refine K_condP rfl rfl ?_ ?_
  · intro hlt
    have hi64 : i < 64 := by omega
    have hold := pdB_old l hi64
    have hnew := pdB_step l hi64
    have hv16 := hv0_lt l i
    have hvp := hv0_lt l (i - 1)
    refine go ?_
    refine J_indexStr (U := tab) rfl rfl rfl rfl rfl (by omega) (by rw [hsz]; omega) ?_
    (first | refine J_slot 20 ((u8 (l.getD i 0))) rfl ((by rw [Int.toNat_natCast]; unfold byteAt; rw [← hl]; rfl)) ?_ | refine K_slot 20 ((u8 (l.getD i 0))) rfl ((by rw [Int.toNat_natCast]; unfold byteAt; rw [← hl]; rfl)) ?_)
    refine go ?_
    ((try refine go ?_); first | refine J_callE rfl rfl rfl rfl (value_any (l.getD i 0)) entA ?_ (fun _ _ _ _ _ => trivial) | refine J_call0E rfl rfl rfl (value_any (l.getD i 0)) entA ?_ (fun _ _ _ _ _ => trivial))
    rintro _ _ ⟨rfl, rfl⟩
    have hh0 : (hexv (l.getD i 0)).getD 0 = hv0 l i := rfl
    cases hx : hexv (l.getD i 0) with
    | none =>
      have hp : parseL l = none := by
        unfold parseL; rw [if_neg]
        intro h
        have hm : l.getD i 0 ∈ l := by rw [List.getD_eq_getElem?_getD, List.getElem?_eq_getElem (by omega)]; exact List.getElem_mem _
        exact h.2 _ hm hx
      rw [hp] at hE
      refine go ?_
      refine J_build0 (U := tab) rfl rfl rfl rfl rfl ?_
      refine go ?_
      (refine K_noMarks hE ?_; apply K_returnV (U := tab) hE Tryz.func111 rfl (Ent.refl _); (repeat (first | exact ResOk.nil | apply ResOk.tmp rfl | apply ResOk.agg 0 rfl rfl rfl rfl rfl | apply ResOk.agg 1 rfl rfl rfl rfl rfl | apply ResOk.agg 2 rfl rfl rfl rfl rfl | apply ResOk.agg 3 rfl rfl rfl rfl rfl | apply ResOk.agg 4 rfl rfl rfl rfl rfl | apply ResOk.agg 5 rfl rfl rfl rfl rfl | apply ResOk.agg 6 rfl rfl rfl rfl rfl | apply ResOk.agg 7 rfl rfl rfl rfl rfl | apply ResOk.agg 8 rfl rfl rfl rfl rfl | apply ResOk.one 0 rfl rfl rfl rfl | apply ResOk.one 1 rfl rfl rfl rfl | apply ResOk.one 2 rfl rfl rfl rfl | apply ResOk.one 3 rfl rfl rfl rfl | apply ResOk.one 4 rfl rfl rfl rfl | apply ResOk.one 5 rfl rfl rfl rfl | apply ResOk.one 6 rfl rfl rfl rfl)); exact ⟨rfl, rfl⟩; exact entA)
    | some v =>
      have hv : v = hv0 l i := by rw [hx] at hh0; exact hh0
      simp only [Option.getD_some, Option.isSome_some]
      rw [hv]
      obtain ⟨o, ho⟩ : ∃ o, o = (if i % 2 = 0 then 0 else hv0 l (i - 1)) := ⟨_, rfl⟩
      have ho16 : o < 16 := by rw [ho]; split <;> omega
      rw [← ho] at hold hnew
      have hq : (i : Int) / 2 = ((i / 2 : Nat) : Int) := by omega
      refine go ?_
      (repeat (first | refine go1 ?_ | refine J_fork ?_ ?_ | refine J_quo rfl rfl rfl (by omega) (by omega) (by simp only [inK]; omega) ?_ | refine J_arrAt (U := tab) (i / 2) rfl rfl rfl rfl rfl rfl rfl hq (by omega) ?_ | (refine J_isLoad ?_; refine J_loadCell (U := tab) 0 (i / 2) rfl rfl rfl (Nat.zero_add _) (bV_get hold) rfl rfl ?_)))
      refine J_shlW rfl rfl rfl (by omega) ?_
      (first | refine J_slot 33 ((.int .u8 ((16 * o : Nat) : Int))) rfl ((congrArg (Value.int .u8) (by rw [show (UInt8.ofNat o).toNat = o from by rw [UInt8.toNat_ofNat']; omega]; exact (wrap_in (by show 0 ≤ (o : Int) * 2 ^ 4 ∧ _; simp only [show min ((4 : Int).toNat) IntKind.u8.bits = 4 from rfl]; omega)).trans (by show (o : Int) * 2 ^ 4 = _; omega)))) ?_ | refine K_slot 33 ((.int .u8 ((16 * o : Nat) : Int))) rfl ((congrArg (Value.int .u8) (by rw [show (UInt8.ofNat o).toNat = o from by rw [UInt8.toNat_ofNat']; omega]; exact (wrap_in (by show 0 ≤ (o : Int) * 2 ^ 4 ∧ _; simp only [show min ((4 : Int).toNat) IntKind.u8.bits = 4 from rfl]; omega)).trans (by show (o : Int) * 2 ^ 4 = _; omega)))) ?_)
      refine go ?_
      (first | refine J_slot 35 ((u8 (UInt8.ofNat (16 * o + hv0 l i)))) rfl ((congrArg (Value.int .u8) (by rw [or4_u8 o (hv0 l i) ho16 hv16, UInt8.toNat_ofNat']; omega))) ?_ | refine K_slot 35 ((u8 (UInt8.ofNat (16 * o + hv0 l i)))) rfl ((congrArg (Value.int .u8) (by rw [or4_u8 o (hv0 l i) ho16 hv16, UInt8.toNat_ofNat']; omega))) ?_)
      (repeat (first | refine go1 ?_ | refine J_fork ?_ ?_ | refine J_arrAt (U := tab) (i / 2) rfl rfl rfl rfl rfl rfl rfl hq (by omega) ?_))
      refine J_isStore ?_
      refine J_storeCell (U := tab) 0 (fun _ _ => trivial) rfl rfl rfl rfl rfl rfl rfl (by rw [bV_length, pdB_len]; omega) rfl ?_
      rw [show 0 + i / 2 = i / 2 from Nat.zero_add _, show (bV (pdB l i)).set (i / 2) (u8 (UInt8.ofNat (16 * o + hv0 l i))) = bV (pdB l (i + 1)) from by rw [← hnew]; simp [bV]]
      refine go ?_
      refine K_again ih (i + 1) rfl ⟨by omega, fun j hj => by
        rcases Nat.lt_or_ge j i with h | h
        · exact hgood j h
        · rw [show j = i from by omega, hx]; simp⟩ (by omega) (by repeat (first | exact keep_nil | refine keep_cons rfl ?_)) entA
  intro hge
  have hi64 : i = 64 := by omega
  subst hi64
  have hp : parseL l = some ⟨pdB l 64, pdB_len l 64⟩ := by
    unfold parseL
    rw [if_pos ⟨h64, fun c hc => by
      obtain ⟨j, hj, rfl⟩ := List.mem_iff_getElem.1 hc
      have := hgood j (by omega)
      rwa [List.getD_eq_getElem?_getD, List.getElem?_eq_getElem hj] at this⟩]
  rw [hp] at hE
  obtain ⟨d, hd⟩ : ∃ d : Dg, d = ⟨pdB l 64, pdB_len l 64⟩ := ⟨_, rfl⟩
  rw [← hd] at hE
  have hbs : bV (pdB l 64) = dC d := by rw [dC_bV, hd]
  rw [hbs]
  clear ih
  refine go ?_
  refine J_loadArr (U := tab) 0 rfl rfl rfl rfl rfl rfl ?_
  refine go ?_
  (refine K_noMarks hE ?_; apply K_returnV (U := tab) hE Tryz.func111 rfl (Ent.refl _); (repeat (first | exact ResOk.nil | apply ResOk.tmp rfl | apply ResOk.agg 0 rfl rfl rfl rfl rfl | apply ResOk.agg 1 rfl rfl rfl rfl rfl | apply ResOk.agg 2 rfl rfl rfl rfl rfl | apply ResOk.agg 3 rfl rfl rfl rfl rfl | apply ResOk.agg 4 rfl rfl rfl rfl rfl | apply ResOk.agg 5 rfl rfl rfl rfl rfl | apply ResOk.agg 6 rfl rfl rfl rfl rfl | apply ResOk.agg 7 rfl rfl rfl rfl rfl | apply ResOk.agg 8 rfl rfl rfl rfl rfl | apply ResOk.one 0 rfl rfl rfl rfl | apply ResOk.one 1 rfl rfl rfl rfl | apply ResOk.one 2 rfl rfl rfl rfl | apply ResOk.one 3 rfl rfl rfl rfl | apply ResOk.one 4 rfl rfl rfl rfl | apply ResOk.one 5 rfl rfl rfl rfl | apply ResOk.one 6 rfl rfl rfl rfl)); exact ⟨rfl, rfl⟩; exact entA)
end Go.Proofs.YtpecmnaikjbanaaGreatDoor
/- merkle, plain: a row made into the one above it, in place; rows up to the root. -/
namespace Go.Proofs.YtpecmnaikjbanaaGreatDoor
open Go Go.SL
def rowIn (l : List Dg) (i : Nat) : List Dg := (aboveL l).take i ++ l.drop i
theorem rowIn_len (l : List Dg) {i : Nat} (h : i ≤ l.length / 2) : (rowIn l i).length = l.length := by
 unfold rowIn
 rw [List.length_append, List.length_take, List.length_drop, aboveL_len]; omega
theorem rowIn_get (l : List Dg) {i j : Nat} (h : i ≤ l.length / 2) (hj : i ≤ j) : (rowIn l i)[j]? = l[j]? := by
 unfold rowIn
 have h1 : ((aboveL l).take i).length = i := by rw [List.length_take, aboveL_len]; omega
 rw [List.getElem?_append_right (by omega), h1, List.getElem?_drop, show i + (j - i) = j from by omega]
theorem aboveL_at {l : List Dg} {i : Nat} {a b : Dg} (ha : l[2 * i]? = some a) (hb : l[2 * i + 1]? = some b) : (aboveL l)[i]? = some (nodeL a b) := by
 rw [aboveL_get, ha, hb]
theorem aboveL_last {l : List Dg} {i : Nat} {a : Dg} (ha : l[2 * i]? = some a) (hb : l.length ≤ 2 * i + 1) : (aboveL l)[i]? = some a := by
 rw [aboveL_get, ha, List.getElem?_eq_none hb]
theorem rowIn_set (l : List Dg) {i : Nat} (h : i < l.length / 2) {x : Dg} (hx : (aboveL l)[i]? = some x) : (rowIn l i).set i x = rowIn l (i + 1) := by
 unfold rowIn
 have h1 : ((aboveL l).take i).length = i := by rw [List.length_take, aboveL_len]; omega
 rw [List.set_append_right _ _ (by omega), h1, Nat.sub_self, List.take_add_one, hx]
 have h2 : l.drop i = l[i] :: l.drop (i + 1) := List.drop_eq_getElem_cons (by omega)
 rw [h2, List.set_cons_zero]
 simp
theorem rowIn_even (l : List Dg) (h : l.length % 2 = 0) : (rowIn l (l.length / 2)).take ((l.length + 1) / 2) = aboveL l := by
 unfold rowIn
 have h1 : (aboveL l).length = (l.length + 1) / 2 := aboveL_len l
 rw [List.take_of_length_le (l := aboveL l) (by omega), List.take_append_of_le_length (by omega), List.take_of_length_le (by omega)]
theorem rowIn_odd (l : List Dg) (h : l.length % 2 = 1) {x : Dg} (hx : l[l.length - 1]? = some x) : ((rowIn l (l.length / 2)).set (l.length / 2) x).take ((l.length + 1) / 2) = aboveL l := by
 have h1 : (aboveL l).length = (l.length + 1) / 2 := aboveL_len l
 have h2 : (aboveL l)[l.length / 2]? = some x := aboveL_last (by rw [← hx]; congr 1; omega) (by omega)
 apply List.ext_getElem?
 intro j
 rw [List.getElem?_take]
 rcases Nat.lt_or_ge j ((l.length + 1) / 2) with hj | hj
 ·rw [if_pos hj, List.getElem?_set]
  by_cases hjl : l.length / 2 = j
  ·rw [if_pos hjl, if_pos (by rw [rowIn_len l (Nat.le_refl _)]; omega), ← hjl, h2]
  ·rw [if_neg hjl]
   unfold rowIn
   rw [List.getElem?_append_left (by rw [List.length_take]; omega), List.getElem?_take, if_pos (by omega)]
 ·rw [if_neg (by omega), List.getElem?_eq_none (by omega)]
def rowN : Nat → List Dg → List Dg
 | 0, l => l
 | j + 1, l => aboveL (rowN j l)
theorem rowN_above (l : List Dg) : ∀ j, rowN j (aboveL l) = rowN (j + 1) l
 | 0 => rfl
 | j + 1 => by
  show aboveL (rowN j (aboveL l)) = _
  rw [rowN_above l j]; rfl
theorem rowN_le (l : List Dg) : ∀ j, (rowN j l).length ≤ l.length
 | 0 => Nat.le_refl _
 | j + 1 => by
  have := rowN_le l j
  simp only [rowN, aboveL_len]; omega
theorem rowN_pos (l : List Dg) (h : 1 ≤ l.length) : ∀ j, 1 ≤ (rowN j l).length
 | 0 => h
 | j + 1 => by
  have := rowN_pos l h j
  simp only [rowN, aboveL_len]; omega
theorem upL_row : ∀ (f : Nat) (l : List Dg) (j : Nat), l.length ≤ f + 1 → (∀ i, i < j → 1 < (rowN i l).length) → (rowN j l).length ≤ 1 → upL f l = rowN j l
 | 0, l, j, hf, hi, hj => by
  cases j with
  | zero => rfl
  | succ j =>
   have := hi 0 (by omega)
   simp only [rowN] at this; omega
 | f + 1, l, j, hf, hi, hj => by
  unfold upL
  cases j with
  | zero => rw [if_pos (show l.length ≤ 1 from hj)]; rfl
  | succ j =>
   have h0 := hi 0 (by omega)
   simp only [rowN] at h0
   rw [if_neg (by omega), upL_row f (aboveL l) j (by rw [aboveL_len]; omega) (fun i h => by rw [rowN_above]; exact hi (i + 1) (by omega)) (by rw [rowN_above]; exact hj), rowN_above]
theorem root_row {l : List Dg} {j : Nat} (h1 : l ≠ []) (hi : ∀ i, i < j → 1 < (rowN i l).length) {x : Dg} (hj : rowN j l = [x]) : rootL l = x := by
 unfold rootL
 rw [if_neg h1, upL_row _ l j (by omega) hi (by rw [hj]; simp), hj]
 rfl
end Go.Proofs.YtpecmnaikjbanaaGreatDoor
namespace Go.Proofs.YtpecmnaikjbanaaGreatDoor
open Go Go.SL
theorem piecesL_get (k : Nat) (hk : 0 < k) : ∀ (f : Nat) (b : List UInt8) (j : Nat), b.length ≤ f → (piecesL k f b)[j]? = if j * k < b.length then some ((b.drop (j * k)).take k) else none
 | 0, b, j, h => by
  have : b = [] := List.eq_nil_of_length_eq_zero (by omega)
  subst this; simp [piecesL]
 | f + 1, b, j, h => by
  unfold piecesL
  by_cases hb : b = []
  ·subst hb; simp
  ·rw [if_neg hb]
   have hpos : 0 < b.length := List.length_pos_iff.2 hb
   cases j with
   | zero => simp [hpos]
   | succ j =>
    rw [List.getElem?_cons_succ, piecesL_get k hk f (b.drop k) j (by rw [List.length_drop]; omega), List.length_drop, List.drop_drop]
    have e : (j + 1) * k = j * k + k := by rw [Nat.add_mul, Nat.one_mul]
    rw [e, show k + j * k = j * k + k from Nat.add_comm _ _]
    by_cases hlt : j * k < b.length - k
    ·rw [if_pos hlt, if_pos (by omega)]
    ·rw [if_neg hlt, if_neg (by omega)]
theorem piecesL_len (k : Nat) (hk : 0 < k) (b : List UInt8) : (piecesL k b.length b).length = (b.length + k - 1) / k := by
 have hg := piecesL_get k hk b.length b
 have h1 : ∀ j, j < (piecesL k b.length b).length ↔ j < (b.length + k - 1) / k := by
  intro j
  have h2 := hg j (Nat.le_refl _)
  have h3 : j < (b.length + k - 1) / k ↔ j * k < b.length := by
   rw [show j < (b.length + k - 1) / k ↔ j + 1 ≤ (b.length + k - 1) / k from Iff.rfl, Nat.le_div_iff_mul_le hk, Nat.add_mul, Nat.one_mul]
   omega
  rw [h3]
  constructor
  ·intro h
   rw [List.getElem?_eq_getElem h] at h2
   split at h2
   ·assumption
   ·cases h2
  ·intro h
   rw [if_pos h] at h2
   exact (List.getElem?_eq_some_iff.1 h2).1
 rcases Nat.lt_trichotomy (piecesL k b.length b).length ((b.length + k - 1) / k) with h | h | h
 ·have := (h1 _).2 h; omega
 ·exact h
 ·have := (h1 _).1 h; omega
end Go.Proofs.YtpecmnaikjbanaaGreatDoor
