/- Texts of one claim, joined: Bl, Bu, Bx, Va, Vb, Vc, Vd, Jf0, Vm, Vn, Vo, Vp, Vq, Bm. -/
import Derived.Test.YtpecmnaikjbanaaGreatDoorQBL4
import Derived.Test.YtpecmnaikjbanaaGreatDoorQBL8
import Derived.Test.YtpecmnaikjbanaaGreatDoorQBL10
import Derived.Test.YtpecmnaikjbanaaGreatDoorQBL11
/- blobs, part l: Begin. -/
set_option linter.unusedVariables false
set_option linter.unusedSimpArgs false
namespace Go.Proofs.YtpecmnaikjbanaaGreatDoor
open Go Go.SL
def stE (bs bd : Nat) (q : Int) (mb : Nat) : HP := fun h => ∃ b, pts bs (cl (stC bd q mb b) 92) h
theorem stE_in (bs bd : Nat) (q : Int) (mb : Nat) (b : Bool) (H : List HP) : Ent (pts bs (cl (stC bd q mb b) 92) :: H) (stE bs bd q mb :: H) :=
 Ent.fold (B := [_]) fun h' hs => ⟨h', sub.refl h', b, Sep_one hs⟩
end Go.Proofs.YtpecmnaikjbanaaGreatDoor
namespace Go.Proofs.YtpecmnaikjbanaaGreatDoor
open Go Go.SL
theorem stE_cell {G : Glob} {w : World} {bs bd : Nat} {q : Int} {mb : Nat} {H : List HP} (hw : Sat G w (stE bs bd q mb :: H)) : w.cell? ⟨bs, 0, none⟩ = some (ptr bd) := by
 obtain ⟨h, hh, b, hA⟩ := hw.getA (i := 0) rfl
 have hb : h bs = some (cl (stC bd q mb b) 92) := by rw [hA bs, if_pos rfl]
 exact cell_of_hcell hh (by unfold hcell; rw [hb]; rfl)
attribute [local irreducible] J K Ctr Ends pts slc mapR mapI sbRow stock arrS loopP CtrY Sha.chunks Sha.chunk Sha.rounds Sha.sched sumL taggedL GI leafL diskA
section
variable {P : Program} {f : FuncId} {n : Nat} {R : Ending → World → Prop} {G : Glob} {L : Lst} {H : List HP} {S : World → Prop} {all : Array Oper} {rest : Pl}
theorem J_mid {k k' : List Item} {α : Type} (I : α → Prop) (Lf : α → Lst) (Hf : α → List HP) (hk : advK 1000 k = .mk k') (tail : ∀ y, I y → K P f n R G k' (Lf y) (Hf y))
  (h : (∀ y, I y → K P f n R G k' (Lf y) (Hf y)) → J P f n R G S all rest k L H) : J P f n R G S all rest k L H := h tail
theorem J_midD {k k' : List Item} {α : Type} (m : Nat) (I : α → Prop) (Lf : α → Lst) (Hf : α → List HP) (hk : advK 1000 (k.drop m) = .mk k') (tail : ∀ y, I y → K P f n R G k' (Lf y) (Hf y))
  (h : (∀ y, I y → K P f n R G k' (Lf y) (Hf y)) → J P f n R G S all rest k L H) : J P f n R G S all rest k L H := h tail
end
theorem usedS_le {A : Ab} {beg : List (Dg × Bl)} {brk : Bool} (h : DOk A) (hb : BegOk beg) : 0 ≤ usedS ⟨A, beg, brk⟩ ∧ usedS ⟨A, beg, brk⟩ ≤ 1048786000000 := by
 have h1 := metS_le beg (beg.map (·.1)) hb.1
 rw [metS_all beg _ (fun x hx => List.mem_map.2 ⟨x, hx, rfl⟩)] at h1
 have h2 := used_names (h.nodup _ (List.mem_cons_self ..))
 have h3 := sum_le_of (namesF A) (oneU A) 1048576 (fun x _ => oneU_le h x)
 have h4 := namesF_len h
 have h5 := hb.2
 unfold usedS
 simp only
 rw [h2]
 omega
theorem begE_set (l : List (Dg × Bl)) (x : Bl) (h : begL l x.d = none) : aset (begE l) x.d (blV x) = begE (l ++ [(x.d, x)]) := by
 have hn : x.d ∉ (begE l).map (·.1) := by
  rw [← alook_none, begE_look, h]; rfl
 unfold aset
 rw [if_neg hn]
 simp [begE]
set_option maxRecDepth 20000 in
set_option maxHeartbeats 1000000 in
theorem Begin_bl (bs bd : Nat) (q : Int) (hq : 0 ≤ q ∧ q ≤ 1073741824) (mb : Nat) (s : Sto) (x : Bl) (hbo : BegOk s.beg) (hst : s.A.states.length ≤ 900000000) (hwl : s.A.writes.length ≤ 900000000) :
  Ctr Tryz.prog 15 [ptr bs, blV x] (stoL bs bd q mb s)
  (fun r H => ∃ (e : Nat) (t : Sto), r = .int .i64 (e : Int) ∧ H = stoL bs bd q mb t ∧ BeginR q x s e t) := by
 obtain ⟨A, beg, brk⟩ := s
 have hused := Used_bl bs bd q mb ⟨A, beg, brk⟩ hbo
 have hlk := begE_look beg x.d
 obtain ⟨hb1, hb2⟩ := hbo
 simp only at hst hwl hb1 hb2
 have hright := Right_any x
 have hhas := Has_any bs bd q mb brk A x.d
 unfold dV at hhas
 unfold blV at hright ⊢
 refine Ctr.enter Tryz.func15 (by kernel_rfl) rfl Tryz.ntmps15 rfl rfl ?_
 intro G F R hE
 refine K_ent (H' := pts bs (cl (stC bd q mb brk) 92) :: mapR dV mb (begE beg) :: diskA bd A :: F) (Ent.refl _) ?_
 refine K_regionA rfl ?_
 refine J_box rfl rfl (fun _ _ _ => trivial) ?_
 intro b2
 refine J_box rfl rfl (fun _ _ _ => trivial) ?_
 intro b3
 (refine goR ?_)
 refine K_drawA (fun w => Sat G w ([pts b3 (cl (blC x) 32), pts b2 (cl [ptr bs] 35), pts bs (cl (stC bd q mb brk) 92), mapR dV mb (begE beg)])) (.st 0 (.st 1 (.st 2 (.st 3 (.st 4 (.st 5 (.st 6 (.st 7 (.st 8 (.st 9 (.act 10 (.act 11 (.st 12 .nil))))))))))))) rfl (by kernel_rfl) (by kernel_rfl) (by kernel_rfl) (fun w hw => hw.ent entA) ?_
 refine J_mid (fun isb : Bool => isb = (begL beg x.d).isSome) (fun isb => [(2, ptr b2), (3, ptr b3), (6, .bool isb)]) (fun _ => pts b3 (cl (blC x) 32) :: pts b2 (cl [ptr bs] 35) :: pts bs (cl (stC bd q mb brk) 92) :: mapR dV mb (begE beg) :: diskA bd A :: F) rfl ?_ ?_
 ·rintro isb hisb
  have hB0 : brk = true → BeginR q x ⟨A, beg, brk⟩ 10 ⟨A, beg, brk⟩ := fun h => by unfold BeginR; rw [if_pos h]; exact ⟨rfl, rfl⟩
  have hB1 : ¬ brk = true → rightB x = false → BeginR q x ⟨A, beg, brk⟩ 1 ⟨A, beg, brk⟩ := fun h h1 => by unfold BeginR; rw [if_neg h, if_pos h1]; exact ⟨rfl, rfl⟩
  have hB2 : ¬ brk = true → ¬ rightB x = false → (isb = true ∨ hasF A (fB x) = true) → BeginR q x ⟨A, beg, brk⟩ 5 ⟨A, beg, brk⟩ := fun h h1 h2 => by unfold BeginR; rw [hisb] at h2; rw [if_neg h, if_neg h1, if_pos h2]; exact ⟨rfl, rfl⟩
  have hB3 : ∀ e t, ¬ brk = true → ¬ rightB x = false → ¬ (isb = true ∨ hasF A (fB x) = true) → (if q < usedS ⟨A, beg, brk⟩ + x.size then e = 11 ∧ t = ⟨A, beg, brk⟩
    else if hasF A (fS x) then e = 0 ∧ t = ⟨A, beg ++ [(x.d, x)], brk⟩
    else ∃ e1 s1, chgS [stCreate (fS x), stSyncNames] ⟨A, beg, brk⟩ e1 s1 ∧ ((e1 ≠ 0 ∧ e = e1 ∧ t = s1) ∨ (e1 = 0 ∧ e = 0 ∧ t = ⟨s1.A, s1.beg ++ [(x.d, x)], s1.brk⟩))) → BeginR q x ⟨A, beg, brk⟩ e t := fun e t h h1 h2 h3 => by
   unfold BeginR; rw [hisb] at h2; rw [if_neg h, if_neg h1, if_neg h2]; exact h3
  cases brk with
  | true =>
   refine go ?_
   refine K_ent (H' := stoL bs bd q mb ⟨A, beg, true⟩ ++ F) entA ?_
   (first | refine K_return hE Tryz.func15 rfl _ rfl ⟨10, ⟨A, beg, true⟩, rfl, rfl, hB0 rfl⟩ entA | refine K_fallEnd hE Tryz.func15 rfl _ rfl ⟨10, ⟨A, beg, true⟩, rfl, rfl, hB0 rfl⟩ entA)
  | false =>
   refine K_diskA (bd := bd) (A := A) 4 rfl ?_
   intro hdk
   have hul := usedS_le (brk := false) hdk ⟨hb1, hb2⟩
   refine go ?_
   refine J_loadArr (U := tab) (l := blC x) 0 rfl rfl rfl rfl rfl rfl ?_
   ((try refine go ?_); first | refine J_callE rfl rfl rfl rfl (hright) entA ?_ (fun _ _ _ _ _ => trivial) | refine J_call0E rfl rfl rfl (hright) entA ?_ (fun _ _ _ _ _ => trivial))
   rintro _ _ ⟨rfl, rfl⟩
   cases hr : rightB x with
   | false =>
    refine go ?_
    refine K_ent (H' := stoL bs bd q mb ⟨A, beg, false⟩ ++ F) entA ?_
    (first | refine K_return hE Tryz.func15 rfl _ rfl ⟨1, ⟨A, beg, false⟩, rfl, rfl, hB1 (by simp) hr⟩ entA | refine K_fallEnd hE Tryz.func15 rfl _ rfl ⟨1, ⟨A, beg, false⟩, rfl, rfl, hB1 (by simp) hr⟩ entA)
   | true =>
    have hr' : ¬ rightB x = false := by rw [hr]; simp
    have hrs := hr
    simp only [rightB, decide_eq_true_eq] at hrs
    cases isb with
    | true =>
     refine go ?_
     refine K_ent (H' := stoL bs bd q mb ⟨A, beg, false⟩ ++ F) entA ?_
     (first | refine K_return hE Tryz.func15 rfl _ rfl ⟨5, ⟨A, beg, false⟩, rfl, rfl, hB2 (by simp) hr' (.inl rfl)⟩ entA | refine K_fallEnd hE Tryz.func15 rfl _ rfl ⟨5, ⟨A, beg, false⟩, rfl, rfl, hB2 (by simp) hr' (.inl rfl)⟩ entA)
    | false =>
     refine go ?_
     refine J_loadAgg (U := tab) 0 rfl rfl rfl rfl rfl rfl ?_
     ((try refine go ?_); first | refine J_callE rfl rfl rfl rfl (hhas) entA ?_ (fun _ _ _ _ _ => trivial) | refine J_call0E rfl rfl rfl (hhas) entA ?_ (fun _ _ _ _ _ => trivial))
     rintro _ _ ⟨rfl, rfl⟩
     cases hhb : hasF A (fileN kB x.d) with
     | true =>
      refine go ?_
      refine K_ent (H' := stoL bs bd q mb ⟨A, beg, false⟩ ++ F) entA ?_
      (first | refine K_return hE Tryz.func15 rfl _ rfl ⟨5, ⟨A, beg, false⟩, rfl, rfl, hB2 (by simp) hr' (.inr hhb)⟩ entA | refine K_fallEnd hE Tryz.func15 rfl _ rfl ⟨5, ⟨A, beg, false⟩, rfl, rfl, hB2 (by simp) hr' (.inr hhb)⟩ entA)
     | false =>
      have hno : ¬ (false = true ∨ hasF A (fB x) = true) := by
       have : hasF A (fB x) = false := hhb
       rw [this]; simp
      refine go ?_
      refine K_drawA (fun w => Sat G w ([pts b3 (cl (blC x) 32), pts b2 (cl [ptr bs] 35), pts bs (cl (stC bd q mb false) 92)])) (.st 0 (.st 2 (.st 3 (.st 5 (.st 6 (.st 7 (.st 8 (.act 1 (.st 4 (.st 9 (.st 10 .nil))))))))))) rfl (by kernel_rfl) (by kernel_rfl) (by kernel_rfl) (fun w hw => hw.ent entA) ?_
      refine go ?_
      (first | refine J_callE rfl rfl rfl rfl (hused) entA ?_ (fun _ _ w hp hw => by obtain ⟨rfl, rfl⟩ := hp; exact hw.ent entA) | refine J_call0E rfl rfl rfl (hused) entA ?_ (fun _ _ w hp hw => by obtain ⟨rfl, rfl⟩ := hp; exact hw.ent entA))
      rintro _ _ ⟨rfl, rfl⟩
      refine go ?_
      refine K_condP rfl rfl ?_ ?_
      ·intro hqu
       have hq' : q < usedS ⟨A, beg, false⟩ + x.size := hqu
       refine go ?_
       refine K_ent (H' := stoL bs bd q mb ⟨A, beg, false⟩ ++ F) entA ?_
       (first | refine K_return hE Tryz.func15 rfl _ rfl ⟨11, ⟨A, beg, false⟩, rfl, rfl, hB3 _ _ (by simp) hr' hno (by rw [if_pos hq']; exact ⟨rfl, rfl⟩)⟩ entA | refine K_fallEnd hE Tryz.func15 rfl _ rfl ⟨11, ⟨A, beg, false⟩, rfl, rfl, hB3 _ _ (by simp) hr' hno (by rw [if_pos hq']; exact ⟨rfl, rfl⟩)⟩ entA)
      ·intro hqu
       have hq' : ¬ q < usedS ⟨A, beg, false⟩ + x.size := hqu
       refine K_ent (H' := pts b3 (cl (blC x) 32) :: pts b2 (cl [ptr bs] 35) :: pts bs (cl (stC bd q mb false) 92) :: mapR dV mb (begE beg) :: diskA bd A :: F) entA ?_
       refine go ?_
       refine J_loadAgg (U := tab) 0 rfl rfl rfl rfl rfl rfl ?_
       ((try refine go ?_); first | refine J_callE rfl rfl rfl rfl (fS_any x) entA ?_ (fun _ _ _ _ _ => trivial) | refine J_call0E rfl rfl rfl (fS_any x) entA ?_ (fun _ _ _ _ _ => trivial))
       rintro _ _ ⟨rfl, rfl⟩
       refine J_alloc (U := tab) rfl rfl rfl (fun _ _ _ => trivial) ?_
       intro b7
       refine go ?_
       ((try refine go ?_); first | refine J_callE rfl rfl rfl rfl (is_any bs bd q mb false A (fS x)) entA ?_ (fun _ _ _ _ _ => trivial) | refine J_call0E rfl rfl rfl (is_any bs bd q mb false A (fS x)) entA ?_ (fun _ _ _ _ _ => trivial))
       rintro _ _ ⟨rfl, rfl⟩
       refine J_midD 1 (fun B : Ab => BeginR q x ⟨A, beg, false⟩ 0 ⟨B, beg ++ [(x.d, x)], false⟩) (fun B => [(2, ptr b2), (3, ptr b3)]) (fun B => pts b3 (cl (blC x) 32) :: pts b2 (cl [ptr bs] 35) :: pts bs (cl (stC bd q mb false) 92) :: mapR dV mb (begE beg) :: diskA bd B :: F) rfl ?_ ?_
       ·intro B hBB
        have hset := begE_set beg x (by cases h : begL beg x.d with | none => rfl | some y => rw [h] at hisb; cases hisb)
        refine K_drawA (fun w => Sat G w ([pts b3 (cl (blC x) 32), pts b2 (cl [ptr bs] 35), pts bs (cl (stC bd q mb false) 92)])) (.st 0 (.st 1 (.st 2 (.st 3 (.st 4 (.st 5 (.st 6 (.act 7 .nil)))))))) rfl (by kernel_rfl) (by kernel_rfl) (by kernel_rfl) (fun w hw => hw.ent entA) ?_
        refine go ?_
        refine J_loadAggS (U := tab) 0 rfl rfl rfl rfl rfl rfl ?_
        refine go ?_
        refine J_loadAggS (U := tab) (cs := blC x) 0 rfl rfl rfl rfl rfl rfl ?_
        refine go ?_
        refine J_mapUpdate (U := tab) (es := begE beg) (key := x.d) (v := blV x) 3 kDg (fun _ _ => by exact trivial) rfl rfl rfl rfl rfl rfl rfl rfl ?_
        rw [hset]
        refine go ?_
        refine K_ent (H' := stoL bs bd q mb ⟨B, beg ++ [(x.d, x)], false⟩ ++ F) entA ?_
        (first | refine K_return hE Tryz.func15 rfl _ rfl ⟨0, ⟨B, beg ++ [(x.d, x)], false⟩, rfl, rfl, hBB⟩ entA | refine K_fallEnd hE Tryz.func15 rfl _ rfl ⟨0, ⟨B, beg ++ [(x.d, x)], false⟩, rfl, rfl, hBB⟩ entA)
       ·intro tail
        cases hsf : hasF A (fS x) with
        | true =>
         refine go ?_
         refine K_to tail A rfl (hB3 _ _ (by simp) hr' hno (by rw [if_neg hq', if_pos hsf]; exact ⟨rfl, rfl⟩)) (by repeat (first | exact keep_nil | refine keep_cons rfl ?_)) entA
        | false =>
         have hst1 : ∀ (i : Nat) (fv : Value) (sp : Stp), [.func (.func 56) #[] #[ptr b2, ptr b7], .func (.func 51) #[ptr bd] #[] ][i]? = some fv → [stCreate (fS x), stSyncNames][i]? = some sp → ∃ g fi cap, fv = .func (.func g) fi cap ∧ ∀ y, GQ A i y → Ctr Tryz.prog g (fi.toList ++ cap.toList) [stX bs bd q mb false (Sep [pts b2 (cl [ptr bs] 35), pts b7 (cl [.string (fS x)] 9)]) y] (fun r H => ∃ (e : Nat) (x' : Ab), r = .int .i64 (e : Int) ∧ H = [stX bs bd q mb false (Sep [pts b2 (cl [ptr bs] 35), pts b7 (cl [.string (fS x)] 9)]) x'] ∧ sp y e x' ∧ (e = 0 → GQ A (i + 1) x')) := by
          intro i fv sp hi hs
          match i, hi, hs with
          | 0, hi, hs =>
           cases hi; cases hs
           refine ⟨_, _, _, rfl, fun y hy => ?_⟩
           refine (ctr_stX (p := stCreate (fS x) y) (begin1_any bs bd b2 b7 q mb false (fS x) y (by have := hy.1; omega))).post ?_
           rintro r H ⟨e, B, rfl, rfl, h1⟩
           exact ⟨e, B, rfl, rfl, h1, fun _ => hy.next (grow_stCreate h1)⟩
          | 1, hi, hs =>
           cases hi; cases hs
           refine ⟨_, _, _, rfl, fun y hy => (names_X bs bd q mb false [pts b2 (cl [ptr bs] 35), pts b7 (cl [.string (fS x)] 9)] y).post ?_⟩
           rintro r H ⟨e, B, rfl, rfl, h1⟩
           exact ⟨e, B, rfl, rfl, h1, fun _ => hy.next (grow_stSyncNames h1)⟩
          | k + 2, hi, hs => simp at hi
         refine go ?_
         refine K_drawA (fun w => Sat G w [stE bs bd q mb, pts b2 (cl [ptr bs] 35)]) (.st 0 (.st 1 (.st 2 (.st 3 (.st 4 (.st 5 (.st 6 (.act 7 (.act 8 (.st 9 .nil)))))))))) rfl (by kernel_rfl) (by kernel_rfl) (by kernel_rfl) (fun w hw => hw.ent (Ent.trans (H2 := [pts bs (cl (stC bd q mb false) 92), pts b2 (cl [ptr bs] 35)]) entA (stE_in bs bd q mb _ _))) ?_
         refine go ?_
         refine J_isLoad ?_
         refine J_loadS (U := tab) rfl rfl (fun w hw => stE_cell hw) rfl rfl ?_
         refine go ?_
         refine J_buildSlice1 (U := tab) (cs := [.func (.func 56) #[] #[ptr b2, ptr b7], .func (.func 51) #[ptr bd] #[] ]) rfl rfl rfl rfl rfl rfl rfl rfl rfl (fun _ w hw => by exact hw.ent (Ent.trans (H2 := [pts bs (cl (stC bd q mb false) 92), pts b2 (cl [ptr bs] 35)]) entA (stE_in bs bd q mb _ _))) ?_
         intro row
         have hch := changeS_any bs bd q mb false (Sep [pts b2 (cl [ptr bs] 35), pts b7 (cl [.string (fS x)] 9)]) (pts row (cl [.func (.func 56) #[] #[ptr b2, ptr b7], .func (.func 51) #[ptr bd] #[] ] 95)) (.slice (some ⟨row, 0, none⟩) 2 2) [.func (.func 56) #[] #[ptr b2, ptr b7], .func (.func 51) #[ptr bd] #[] ] (Vw.pts rfl) (by show 2 ≤ _; omega) [stCreate (fS x), stSyncNames] rfl (GQ A) hst1 A (GQ.zero A)
         refine J_ent (H' := pts row (cl [.func (.func 56) #[] #[ptr b2, ptr b7], .func (.func 51) #[ptr bd] #[] ] 95) :: stX bs bd q mb false (Sep [pts b2 (cl [ptr bs] 35), pts b7 (cl [.string (fS x)] 9)]) A :: mapR dV mb (begE beg) :: pts b3 (cl (blC x) 32) :: F) (Ent.trans (H2 := pts bs (cl (stC bd q mb false) 92) :: diskA bd A :: ([pts b2 (cl [ptr bs] 35), pts b7 (cl [.string (fS x)] 9)] ++ (pts row (cl [.func (.func 56) #[] #[ptr b2, ptr b7], .func (.func 51) #[ptr bd] #[] ] 95) :: mapR dV mb (begE beg) :: pts b3 (cl (blC x) 32) :: F))) entA (Ent.trans (stX_in bs bd q mb false _ A _) entA)) ?_
         refine J_callE rfl rfl rfl rfl hch entA ?_ (fun _ _ w hp hw => by
          obtain ⟨e, B, rfl, rfl, hruns, _⟩ := hp
          exact hw.ent (Ent.trans (Ent.pick [1] rfl) (Ent.trans (stX_out bs bd q mb (or false (decide (e ≠ 0))) _ B _) (Ent.trans (H2 := [pts bs (cl (stC bd q mb (or false (decide (e ≠ 0)))) 92), pts b2 (cl [ptr bs] 35)]) entA (stE_in bs bd q mb _ _)))))
         rintro _ _ ⟨e, B, rfl, rfl, hruns, -⟩
         refine J_ent (Ent.trans (Ent.pick [1] rfl) (stX_out bs bd q mb (or false (decide (e ≠ 0))) _ B _)) ?_
         have hfin : ∀ e' t, (∃ e1 s1, chgS [stCreate (fS x), stSyncNames] ⟨A, beg, false⟩ e1 s1 ∧ ((e1 ≠ 0 ∧ e' = e1 ∧ t = s1) ∨ (e1 = 0 ∧ e' = 0 ∧ t = ⟨s1.A, s1.beg ++ [(x.d, x)], s1.brk⟩))) → BeginR q x ⟨A, beg, false⟩ e' t := fun e' t h => hB3 e' t (by simp) hr' hno (by rw [if_neg hq', if_neg (by rw [hsf]; simp)]; exact h)
         refine go ?_
         refine K_condP rfl rfl ?_ ?_
         ·intro hne1
          have he : e ≠ 0 := by omega
          refine go ?_
          refine K_ent (H' := stoL bs bd q mb ⟨B, beg, or false (decide (e ≠ 0))⟩ ++ F) entA ?_
          (first | refine K_return hE Tryz.func15 rfl _ rfl ⟨e, ⟨B, beg, or false (decide (e ≠ 0))⟩, rfl, rfl, hfin _ _ ⟨e, _, ⟨B, hruns, rfl⟩, .inl ⟨he, rfl, rfl⟩⟩⟩ entA | refine K_fallEnd hE Tryz.func15 rfl _ rfl ⟨e, ⟨B, beg, or false (decide (e ≠ 0))⟩, rfl, rfl, hfin _ _ ⟨e, _, ⟨B, hruns, rfl⟩, .inl ⟨he, rfl, rfl⟩⟩⟩ entA)
         ·intro heq1
          have he : e = 0 := by omega
          subst he
          refine go ?_
          refine K_to tail B rfl (hfin _ _ ⟨0, _, ⟨B, hruns, rfl⟩, .inr ⟨rfl, rfl, rfl⟩⟩) (by repeat (first | exact keep_nil | refine keep_cons rfl ?_)) entA
 ·intro tail
  refine go ?_
  refine J_loadAggS (U := tab) 0 rfl rfl rfl rfl rfl rfl ?_
  refine go ?_
  refine J_lookupOkS (U := tab) (es := begE beg) (key := x.d) rfl kDg rfl rfl rfl rfl rfl rfl rfl (fun w hw => hw.getMap (i := 3) rfl) ?_
  rw [begE_look]
  cases hb : begL beg x.d with
  | none =>
   rw [hb] at tail
   simp only [Option.map_none, Option.getD_none, Option.isSome_none]
   refine go ?_
   refine J_alloc (U := tab) rfl rfl rfl (fun _ w hw => hw.ent entA) ?_
   intro b5
   (refine goR ?_)
   (refine J_isStore ?_; first | refine J_store (U := tab) 0 (fun w hw => hw.ent entA) rfl rfl rfl rfl rfl rfl rfl rfl rfl ?_ | refine J_store (U := tab) 1 (fun w hw => hw.ent entA) rfl rfl rfl rfl rfl rfl rfl rfl rfl ?_ | refine J_store (U := tab) 2 (fun w hw => hw.ent entA) rfl rfl rfl rfl rfl rfl rfl rfl rfl ?_ | refine J_store (U := tab) 3 (fun w hw => hw.ent entA) rfl rfl rfl rfl rfl rfl rfl rfl rfl ?_ | refine J_store (U := tab) 4 (fun w hw => hw.ent entA) rfl rfl rfl rfl rfl rfl rfl rfl rfl ?_ | refine J_store (U := tab) 5 (fun w hw => hw.ent entA) rfl rfl rfl rfl rfl rfl rfl rfl rfl ?_ | refine J_store (U := tab) 6 (fun w hw => hw.ent entA) rfl rfl rfl rfl rfl rfl rfl rfl rfl ?_ | refine J_store (U := tab) 7 (fun w hw => hw.ent entA) rfl rfl rfl rfl rfl rfl rfl rfl rfl ?_ | refine J_store (U := tab) 8 (fun w hw => hw.ent entA) rfl rfl rfl rfl rfl rfl rfl rfl rfl ?_)
   (refine goR ?_)
   refine K_to tail false rfl rfl (by repeat (first | exact keep_nil | refine keep_cons rfl ?_)) entA
  | some y =>
   rw [hb] at tail
   simp only [Option.map_some, Option.getD_some, Option.isSome_some]
   unfold blV
   refine go ?_
   refine J_alloc (U := tab) rfl rfl rfl (fun _ w hw => hw.ent entA) ?_
   intro b5
   (refine goR ?_)
   (refine J_isStore ?_; first | refine J_store (U := tab) 0 (fun w hw => hw.ent entA) rfl rfl rfl rfl rfl rfl rfl rfl rfl ?_ | refine J_store (U := tab) 1 (fun w hw => hw.ent entA) rfl rfl rfl rfl rfl rfl rfl rfl rfl ?_ | refine J_store (U := tab) 2 (fun w hw => hw.ent entA) rfl rfl rfl rfl rfl rfl rfl rfl rfl ?_ | refine J_store (U := tab) 3 (fun w hw => hw.ent entA) rfl rfl rfl rfl rfl rfl rfl rfl rfl ?_ | refine J_store (U := tab) 4 (fun w hw => hw.ent entA) rfl rfl rfl rfl rfl rfl rfl rfl rfl ?_ | refine J_store (U := tab) 5 (fun w hw => hw.ent entA) rfl rfl rfl rfl rfl rfl rfl rfl rfl ?_ | refine J_store (U := tab) 6 (fun w hw => hw.ent entA) rfl rfl rfl rfl rfl rfl rfl rfl rfl ?_ | refine J_store (U := tab) 7 (fun w hw => hw.ent entA) rfl rfl rfl rfl rfl rfl rfl rfl rfl ?_ | refine J_store (U := tab) 8 (fun w hw => hw.ent entA) rfl rfl rfl rfl rfl rfl rfl rfl rfl ?_)
   (refine goR ?_)
   refine K_to tail true rfl rfl (by repeat (first | exact keep_nil | refine keep_cons rfl ?_)) entA
end Go.Proofs.YtpecmnaikjbanaaGreatDoor
/- blobs, the law's awake. -/
namespace Go.Proofs.YtpecmnaikjbanaaGreatDoor
open Go Go.SL
attribute [local irreducible] J K Ctr Ends pts slc mapR mapI sbRow stock arrS loopP CtrY Sha.chunks Sha.chunk Sha.rounds Sha.sched sumL taggedL GI leafL diskA
theorem namesF_nil {A : Ab} (h : A.names = []) : namesF A = [] := by
 have := namesF_names A
 rw [h] at this
 exact List.length_eq_zero_iff.1 this
theorem stScrub_nil {kind : List UInt8} {right : Ab → Dg → Bool} {A B : Ab} {e : Nat} (h : A.names = []) (hs : stScrub kind right A e B) : e = 0 ∧ B = A := by
 unfold stScrub at hs
 rw [namesF_nil h] at hs
 exact hs
theorem Open_new {A B : Ab} {e : Nat} (h : A.names = []) (ho : OpenS A e B) : e = 0 ∧ B = A := by
 obtain ⟨e1, A1, ⟨e2, A2, h2, c2⟩, hfin⟩ := ho
 obtain ⟨rfl, rfl⟩ := stScrub_nil h h2
 rcases c2 with ⟨hne, _⟩ | ⟨_, e3, A3, h3, c3⟩
 ·exact absurd rfl hne
 obtain ⟨rfl, rfl⟩ := stScrub_nil h h3
 rcases c3 with ⟨hne, _⟩ | ⟨_, e4, A4, h4, c4⟩
 ·exact absurd rfl hne
 obtain ⟨rfl, rfl⟩ := stScrub_nil h h4
 rcases c4 with ⟨hne, _⟩ | ⟨_, rfl, rfl⟩
 ·exact absurd rfl hne
 rw [if_neg (by omega)] at hfin
 exact hfin
theorem usedS_none {A : Ab} {brk : Bool} (h : A.names = []) : usedS ⟨A, [], brk⟩ = 0 := by unfold usedS usedF; rw [h]; rfl
theorem blob_ok {b : List UInt8} {k : Int} {x : Bl} (h : blobB b k = some x) : rightB x = true ∧ x.size = b.length ∧ x.piece = k ∧ wholeB x b = true := by
 have h0 := h
 unfold blobB leavesB at h
 split at h
 ·rename_i hr
  simp only [Option.map_some, Option.some.injEq] at h
  subst h
  refine ⟨?_, rfl, rfl, ?_⟩
  ·simpa [rightB] using hr
  ·unfold wholeB; simpa using h0
 ·cases h
theorem blob_one : ∃ x, blobB [7] 16 = some x := by
 unfold blobB leavesB
 rw [if_pos (by decide)]
 exact ⟨_, rfl⟩
theorem span_one {x : Bl} (h : rightB x = true) (h1 : x.size = 1) (h2 : x.piece = 16) : spanB x 0 = some (0, 1) := by
 unfold spanB countB
 rw [if_pos h, h1, h2, if_neg (by omega)]
 simp
 omega
def SGrow (n : Nat) (s t : Sto) : Prop := t.A.states.length ≤ s.A.states.length + n ∧ t.A.writes.length ≤ s.A.writes.length + n
theorem grow_runs (ss : List Stp) (hs : ∀ sp ∈ ss, ∀ A e B, sp A e B → Grow1 A B) (A : Ab) (e : Nat) (B : Ab) (h : Runs ss A e B) : B.states.length ≤ A.states.length + ss.length ∧ B.writes.length ≤ A.writes.length + ss.length := by
 induction ss generalizing A with
 | nil => obtain ⟨_, rfl⟩ := h; exact ⟨Nat.le_refl _, Nat.le_refl _⟩
 | cons sp ss ih =>
  obtain ⟨e1, A1, h1, hc⟩ := h
  have g := hs sp (List.mem_cons_self ..) _ _ _ h1
  have g1 := g.1
  have g2 := g.2
  simp only [List.length_cons]
  rcases hc with ⟨_, _, rfl⟩ | ⟨_, h2⟩
  ·omega
  ·have := ih (fun s h => hs s (List.mem_cons_of_mem _ h)) A1 h2
   omega
theorem grow_chgS {ss : List Stp} (hs : ∀ sp ∈ ss, ∀ A e B, sp A e B → Grow1 A B) {s t : Sto} {e : Nat} (h : chgS ss s e t) : SGrow ss.length s t := by
 obtain ⟨B, h, rfl⟩ := h
 exact grow_runs ss hs _ _ _ h
theorem SGrow.mono {m n : Nat} {s t : Sto} (h : SGrow m s t) (hmn : m ≤ n) : SGrow n s t := ⟨by have := h.1; omega, by have := h.2; omega⟩
theorem SGrow.refl (n : Nat) (s : Sto) : SGrow n s s := ⟨by omega, by omega⟩
theorem BeginR_grow {q : Int} {x : Bl} {s t : Sto} {e : Nat} (h : BeginR q x s e t) : SGrow 2 s t := by
 unfold BeginR at h
 split at h
 ·exact h.2 ▸ SGrow.refl _ _
 split at h
 ·exact h.2 ▸ SGrow.refl _ _
 split at h
 ·exact h.2 ▸ SGrow.refl _ _
 split at h
 ·exact h.2 ▸ SGrow.refl _ _
 split at h
 ·rw [h.2]; exact SGrow.refl 2 s
 ·obtain ⟨e1, s1, hc, hd⟩ := h
  have g := grow_chgS (ss := [stCreate (fS x), stSyncNames]) (fun sp hsp A e B hh => by
   simp only [List.mem_cons, List.not_mem_nil, or_false] at hsp
   rcases hsp with rfl | rfl
   ·exact grow_stCreate hh
   ·exact grow_stSyncNames hh) hc
  rcases hd with ⟨_, _, rfl⟩ | ⟨_, _, rfl⟩ <;> exact g
theorem PutS_grow {x : Bl} {i : Int} {b : List UInt8} {s t : Sto} {e : Nat} (h : PutS x i b s e t) : SGrow 1 s t := by
 unfold PutS at h
 split at h
 ·exact h.2 ▸ SGrow.refl _ _
 split at h
 ·exact h.2 ▸ SGrow.refl _ _
 split at h
 ·exact h.2 ▸ SGrow.refl _ _
 ·exact grow_chgS (fun sp hsp A e B hh => by
   simp only [List.mem_cons, List.not_mem_nil, or_false] at hsp
   subst hsp
   exact grow_stWrite hh) h
theorem AbortS_grow {x : Bl} {s t : Sto} {e : Nat} (h : AbortS x s e t) : SGrow 1 s t := by
 unfold AbortS at h
 split at h
 ·exact h.2 ▸ SGrow.refl _ _
 ·obtain ⟨s1, hc, rfl⟩ := h
  have g := grow_chgS (fun sp hsp A e B hh => by
   simp only [List.mem_cons, List.not_mem_nil, or_false] at hsp
   subst hsp
   exact grow_stRemove hh) hc
  split <;> exact g
theorem InstallS_grow {x : Bl} {s t : Sto} {e : Nat} (h : InstallS x s e t) : SGrow 3 s t := by
 unfold InstallS at h
 split at h
 ·exact h.2 ▸ SGrow.refl _ _
 split at h
 ·obtain ⟨e1, h1, _⟩ := h
  exact (AbortS_grow h1).mono (by omega)
 ·obtain ⟨s1, hc, rfl⟩ := h
  have g := grow_chgS (ss := moveS (fS x) (fB x)) (fun sp hsp A e B hh => by
   simp only [moveS, List.mem_cons, List.not_mem_nil, or_false] at hsp
   rcases hsp with rfl | rfl | rfl
   ·exact grow_stSync hh
   ·exact grow_stRename hh
   ·exact grow_stSyncNames hh) hc
  split <;> exact g
theorem used_le {A : Ab} (h : HA A) (m : Nat) (hm : ∀ n c, vw A n = some c → c.length ≤ m) : A.used ≤ A.names.length * m := by
 unfold Ab.used
 refine sum_le_of A.names _ m fun x hx => ?_
 refine hm x.1 _ ?_
 unfold vw
 rw [look_of_mem h.keys hx]
 rfl
theorem usedS_one {A : Ab} {x : Bl} {f : Nat} {c : List UInt8} {brk : Bool} (h : HA A) (hn : A.names = [(fB x, f)]) (hv : vw A (fB x) = some c) : usedS ⟨A, [], brk⟩ = c.length := by
 have hl : A.look (fB x) = some f := look_of_mem h.keys (x := (fB x, f)) (by rw [hn]; exact List.mem_singleton.2 rfl)
 unfold vw at hv
 rw [hl] at hv
 injection hv with hv
 unfold usedS usedF
 simp only
 rw [hn]
 simp only [List.map_cons, List.map_nil, List.sum_cons, List.sum_nil]
 have : (hashN kB (fB x)).isSome = true := by unfold fB; rw [hashN_file]; rfl
 rw [if_pos this, hv]
 omega
theorem names_one {A : Ab} {n : ByteArray} {c : List UInt8} (h1 : A.names.length = 1) (hv : vw A n = some c) : Ab.delN A.names n = [] := by
 obtain ⟨f, hf⟩ : ∃ f, A.look n = some f := by
  unfold vw at hv
  cases hx : A.look n with
  | none => rw [hx] at hv; cases hv
  | some f => exact ⟨f, rfl⟩
 have hm := look_mem hf
 match hA : A.names, h1, hm with
 | [y], _, hm =>
  have : y = (n, f) := (List.mem_singleton.1 hm).symm
  subst this
  simp [Ab.delN]
theorem Open_first (X : HP) (hK : KAt X) (bd room : Nat) (q : Int) (hq : 1 ≤ q ∧ q ≤ 1073741824) : Ctr Tryz.prog 13 [ptr bd, .int .i64 q] [diskA bd (Ab.new room), X]
  (fun r H => ∃ bs mb, r = .tuple #[ptr bs, .int .i64 0] ∧ H = stoL bs bd q mb ⟨Ab.new room, [], false⟩ ++ [X]) :=
 (Open_any' X hK bd q (Ab.new room) (by show 1 ≤ _; omega)).post (by
  rintro r H (⟨h, _⟩ | ⟨_, h, _⟩ | ⟨_, _, e, B, ho, hc⟩)
  ·exfalso; omega
  ·cases h
  ·obtain ⟨rfl, rfl⟩ := Open_new rfl ho
   rcases hc with ⟨hne, _⟩ | ⟨_, _, bs, mb, rfl, rfl⟩
   ·exact absurd rfl hne
   ·exact ⟨bs, mb, rfl, rfl⟩)
theorem one_BAt (b : Nat) (x : UInt8) : BAt (pts b (cl (bV [x]) 5)) (.slice (some ⟨b, 0, none⟩) 1 1) [x] := ⟨Vw.pts rfl, _, _, rfl, Nat.le_refl _⟩
set_option maxRecDepth 20000 in
set_option maxHeartbeats 1000000 in
theorem awake_any (X : HP) (hK : KAt X) : Ctr Tryz.prog 10 [] [X] (fun r H => r = .bool true ∧ H = [X]) := by
 obtain ⟨x, hx⟩ := blob_one
 obtain ⟨hr, hsz, hpc, hwh⟩ := blob_ok hx
 have hsp := span_one hr hsz hpc
 refine Ctr.enter Tryz.func10 (by kernel_rfl) rfl Tryz.ntmps10 rfl rfl ?_
 intro G F R hE
 refine go ?_
 ((try refine go ?_); first | refine J_callE rfl rfl rfl rfl (New_dA 10000 (by omega) (by omega)) entA ?_ (fun _ _ _ _ _ => trivial) | refine J_call0E rfl rfl rfl (New_dA 10000 (by omega) (by omega)) entA ?_ (fun _ _ _ _ _ => trivial))
 rintro _ _ ⟨bd, rfl, rfl⟩
 refine go ?_
 ((try refine go ?_); first | refine J_callE rfl rfl rfl rfl (Open_first X hK bd 10000 1000 (by omega)) entA ?_ (fun _ _ _ _ _ => trivial) | refine J_call0E rfl rfl rfl (Open_first X hK bd 10000 1000 (by omega)) entA ?_ (fun _ _ _ _ _ => trivial))
 rintro _ _ ⟨bs, mb, rfl, rfl⟩
 refine go ?_
 refine J_buildSlice1 (U := tab) (cs := bV [7]) rfl rfl rfl rfl rfl rfl rfl rfl rfl (fun _ _ _ => trivial) ?_
 intro row
 have hbl := Blob_ref _ _ [7] (one_BAt row 7) (by decide) 16
 rw [hx] at hbl
 ((try refine go ?_); first | refine J_callE rfl rfl rfl rfl (hbl) entA ?_ (fun _ _ _ _ _ => trivial) | refine J_call0E rfl rfl rfl (hbl) entA ?_ (fun _ _ _ _ _ => trivial))
 rintro _ _ ⟨rfl, rfl⟩
 unfold blV
 refine go ?_
 refine J_alloc (U := tab) rfl rfl rfl (fun _ _ _ => trivial) ?_
 intro b5
 refine go ?_
 refine J_loadArr (U := tab) (l := blC x) 0 rfl rfl rfl rfl rfl rfl ?_
 have hbg := Begin_bl bs bd 1000 (by omega) mb ⟨Ab.new 10000, [], false⟩ x ⟨by simp, by simp⟩ (by show 1 ≤ _; omega) (by show 0 ≤ _; omega)
 unfold blV at hbg
 ((try refine go ?_); first | refine J_callE rfl rfl rfl rfl (hbg) entA ?_ (fun _ _ _ _ _ => trivial) | refine J_call0E rfl rfl rfl (hbg) entA ?_ (fun _ _ _ _ _ => trivial))
 rintro _ _ ⟨e1, s1, rfl, rfl, hR1⟩
 obtain ⟨rfl, a1, b1, c1, v1, n1, r1⟩ := Begin_ok (HA.new 10000) rfl hr rfl rfl (by rw [usedS_none rfl, hsz]; decide) rfl (by decide) hR1
 have g1 := BeginR_grow hR1
 have hop1 : begL s1.beg x.d = some x := by rw [c1]; simp [begL]
 refine go ?_
 refine J_loadArr (U := tab) (l := blC x) 3 rfl rfl rfl rfl rfl rfl ?_
 refine J_buildSlice1 (U := tab) (cs := bV [7]) rfl rfl rfl rfl rfl rfl rfl rfl rfl (fun _ _ _ => trivial) ?_
 intro row2
 have g11 : s1.A.states.length ≤ 1 + 2 := g1.1
 have g12 : s1.A.writes.length ≤ 0 + 2 := g1.2
 have hpt := Put_bl (pts row2 (cl (bV [7]) 5)) bs bd 1000 mb s1 x 0 (.slice (some ⟨row2, 0, none⟩) 1 1) [7] (Vw.pts rfl) (by decide) (by omega) (by omega) (by omega)
 unfold blV at hpt
 ((try refine go ?_); first | refine J_callE rfl rfl rfl rfl (hpt) entA ?_ (fun _ _ _ _ _ => trivial) | refine J_call0E rfl rfl rfl (hpt) entA ?_ (fun _ _ _ _ _ => trivial))
 rintro _ _ ⟨e2, s2, rfl, rfl, hR2⟩
 have hv1 : vw s1.A (fS x) = some [] := by rw [v1, if_pos rfl]
 have hu1 : s1.A.used ≤ s1.A.names.length * 0 := used_le a1 0 (fun n c hn => by
  rw [v1] at hn
  split at hn
  ·injection hn with hn; subst hn; exact Nat.le_refl _
  ·cases hn)
 have hrm1 : s1.A.room = 10000 := r1
 obtain ⟨rfl, a2, b2, c2, v2, n2, r2⟩ := Put_ok a1 b1 hop1 hsp rfl hv1 (by simp) (by rw [hrm1]; simp at hu1 ⊢; omega) hR2
 have g2 := PutS_grow hR2
 have g21 := g2.1
 have g22 := g2.2
 have hop2 : begL s2.beg x.d = some x := by rw [c2]; exact hop1
 have hrm2 := r2
 have hv2 : vw s2.A (fS x) = some [7] := by rw [v2, if_pos rfl]; rfl
 have hB2 : vw s2.A (fB x) = none := by rw [v2, if_neg (fun h => fS_ne_fB x x h.symm), v1, if_neg (fun h => fS_ne_fB x x h.symm)]; rfl
 refine go ?_
 refine J_loadArr (U := tab) (l := blC x) 4 rfl rfl rfl rfl rfl rfl ?_
 have hin := Install_bl X hK bs bd 1000 mb s2 x (by omega) (by omega)
 unfold blV at hin
 ((try refine go ?_); first | refine J_callE rfl rfl rfl rfl (hin) entA ?_ (fun _ _ _ _ _ => trivial) | refine J_call0E rfl rfl rfl (hin) entA ?_ (fun _ _ _ _ _ => trivial))
 rintro _ _ ⟨e3, s3, rfl, rfl, hR3⟩
 obtain ⟨rfl, a3, b3, c3, v3, r3, f3, n3⟩ := Install_ok a2 b2 hop2 hv2 hB2 hwh hR3
 have hn2 : s2.A.names.length = 1 := by rw [n2, n1]; rfl
 have hn3 : s3.A.names = [(fB x, f3)] := by rw [n3, names_one hn2 hv2]; rfl
 have hv3 : vw s3.A (fB x) = some [7] := by rw [v3, if_pos rfl]
 have hbg3 : s3.beg = [] := by rw [c3, c2, c1]; simp [delB]
 have hus : usedS s3 = 1 := by
  have := usedS_one (brk := s3.brk) a3 hn3 hv3
  obtain ⟨A3, beg3, brk3⟩ := s3
  simp only at hbg3
  subst hbg3
  exact this
 have hus2 := Used_bl bs bd 1000 mb s3 (by rw [hbg3]; exact ⟨by simp, by simp⟩)
 rw [hus] at hus2
 have hhs := Has_any bs bd 1000 mb s3.brk s3.A x.d
 rw [hasF_vw, show vw s3.A (fileN kB x.d) = some [7] from hv3] at hhs
 unfold dV at hhs
 refine go ?_
 refine J_loadAgg (U := tab) 5 rfl rfl rfl rfl rfl rfl ?_
 ((try refine go ?_); first | refine J_callE rfl rfl rfl rfl (hhs) entA ?_ (fun _ _ _ _ _ => trivial) | refine J_call0E rfl rfl rfl (hhs) entA ?_ (fun _ _ _ _ _ => trivial))
 rintro _ _ ⟨rfl, rfl⟩
 refine go ?_
 ((try refine go ?_); first | refine J_callE rfl rfl rfl rfl (hus2) entA ?_ (fun _ _ _ _ _ => trivial) | refine J_call0E rfl rfl rfl (hus2) entA ?_ (fun _ _ _ _ _ => trivial))
 rintro _ _ ⟨rfl, rfl⟩
 refine go ?_
 (first | refine K_return hE Tryz.func10 rfl _ rfl ⟨rfl, rfl⟩ entA | refine K_fallEnd hE Tryz.func10 rfl _ rfl ⟨rfl, rfl⟩ entA)
end Go.Proofs.YtpecmnaikjbanaaGreatDoor
/- blobs, plain: the rounds of the law Spoilt. -/
namespace Go.Proofs.YtpecmnaikjbanaaGreatDoor
open Go Go.SL
theorem wroteL_add (C b : List UInt8) : wroteL C C.length b = C ++ b := by
 unfold wroteL
 simp
end Go.Proofs.YtpecmnaikjbanaaGreatDoor
/- blobs, plain: sums over what has a name. -/
namespace Go.Proofs.YtpecmnaikjbanaaGreatDoor
open Go Go.SL
/-! ## a disk to which nothing happens -/
/-! ## kinds -/
def fI (d : Dg) : ByteArray := fileN kI d
def fN (d : Dg) : ByteArray := fileN kN d
def fBd (d : Dg) : ByteArray := fileN kB d
def fSd (d : Dg) : ByteArray := fileN kS d
theorem kd_ne {j k : List UInt8} (hl : j.length = k.length) (hjk : j ≠ k) (a b : Dg) : fileN j a ≠ fileN k b := fun h => hjk (fileN_kind hl h)
theorem isName_N (d : Dg) : isName (fN d) = true := isName_file kN d (by decide) (by decide)
/-! ## steps, by what names have -/
end Go.Proofs.YtpecmnaikjbanaaGreatDoor
/- blobs, plain: what a store keeps to, on a disk to which nothing happens. -/
namespace Go.Proofs.YtpecmnaikjbanaaGreatDoor
open Go Go.SL
/-! ## what is begun -/
theorem delB_mem {l : List (Dg × Bl)} {d : Dg} {x : Dg × Bl} (h : x ∈ delB l d) : x ∈ l := (List.mem_filter.1 h).1
/-! ## what stands under a name -/
theorem fBd_inj {a b : Dg} (h : fBd a = fBd b) : a = b := fileN_inj h
theorem fI_inj {a b : Dg} (h : fI a = fI b) : a = b := fileN_inj h
theorem fSd_ne_fBd (a b : Dg) : fSd a ≠ fBd b := kd_ne (by rfl) (by decide) a b
theorem fSd_ne_fI (a b : Dg) : fSd a ≠ fI b := kd_ne (by rfl) (by decide) a b
theorem fSd_ne_fN (a b : Dg) : fSd a ≠ fN b := kd_ne (by rfl) (by decide) a b
theorem fBd_ne_fI (a b : Dg) : fBd a ≠ fI b := kd_ne (by rfl) (by decide) a b
theorem fBd_ne_fN (a b : Dg) : fBd a ≠ fN b := kd_ne (by rfl) (by decide) a b
theorem fI_ne_fN (a b : Dg) : fI a ≠ fN b := kd_ne (by rfl) (by decide) a b
/-! ## opened again -/
theorem scrub_none {kind : List UInt8} {right : Ab → Dg → Bool} {A : Ab} (l : List ByteArray) (h : ∀ nm ∈ l, ∀ d, hashN kind nm = some d → right A d = true) {e : Nat} {B : Ab} (hs : Scrub kind right l A e B) : e = 0 ∧ B = A := by
 induction l with
 | nil => exact hs
 | cons nm l ih =>
  have ih2 := ih fun n hn => h n (List.mem_cons_of_mem _ hn)
  unfold Scrub at hs
  cases hh : hashN kind nm with
  | none => rw [hh] at hs; exact ih2 hs
  | some d =>
   rw [hh] at hs
   simp only at hs
   rw [if_pos (h nm (List.mem_cons_self ..) d hh)] at hs
   exact ih2 hs
end Go.Proofs.YtpecmnaikjbanaaGreatDoor
/- blobs, plain: what each change makes of a store that keeps to it, on a disk to which nothing happens. -/
namespace Go.Proofs.YtpecmnaikjbanaaGreatDoor
open Go Go.SL
theorem fB_eq (x : Bl) : fB x = fBd x.d := rfl
theorem whole_size {x : Bl} {b : List UInt8} (h : wholeB x b = true) : x.size = b.length ∧ sumL b = x.d := by
 unfold wholeB blobB leavesB at h
 simp only [decide_eq_true_eq] at h
 split at h
 ·simp only [Option.map_some, Option.some.injEq] at h
  rw [← h]
  exact ⟨rfl, rfl⟩
 ·cases h
end Go.Proofs.YtpecmnaikjbanaaGreatDoor
/- a disk, plain: its files behind changes. -/
namespace Go.Proofs.YtpecmnaikjbanaaGreatDoor
open Go Go.SL
theorem find_map_same {fs : List (Nat × List UInt8 × List UInt8)} (u : Nat × List UInt8 × List UInt8 → Nat × List UInt8 × List UInt8) (hu : ∀ x, (u x).1 = x.1) (f : Nat) :
  (fs.map u).find? (fun x => decide (x.1 = f)) = (fs.find? (fun x => decide (x.1 = f))).map u := by
 induction fs with
 | nil => rfl
 | cons x l ih =>
  simp only [List.map_cons, List.find?_cons, hu]
  by_cases h : x.1 = f
  ·simp [h]
  ·simp [h, ih]
theorem find_mem {fs : List (Nat × List UInt8 × List UInt8)} {f : Nat} (h : f ∈ fs.map (·.1)) : ∃ x, fs.find? (fun x => decide (x.1 = f)) = some x ∧ x.1 = f := by
 obtain ⟨y, hy, hyf⟩ := List.mem_map.1 h
 cases hx : fs.find? (fun x => decide (x.1 = f)) with
 | none => exact absurd hyf (by simpa using List.find?_eq_none.1 hx y hy)
 | some x => exact ⟨x, rfl, by simpa using List.find?_some hx⟩
theorem file_map (A : Ab) (u : Nat × List UInt8 × List UInt8 → Nat × List UInt8 × List UInt8) (hu : ∀ x, (u x).1 = x.1) {f : Nat} (h : f ∈ A.fs.map (·.1)) : ({ A with fs := A.fs.map u } : Ab).file f = (u (f, A.file f)).2 := by
 obtain ⟨x, hx, hxf⟩ := find_mem h
 simp only [Ab.file]
 rw [find_map_same u hu, hx]
 obtain ⟨a, b⟩ := x
 simp only at hxf
 subst hxf
 rfl
theorem ids_map (fs : List (Nat × List UInt8 × List UInt8)) (u : Nat × List UInt8 × List UInt8 → Nat × List UInt8 × List UInt8) (hu : ∀ x, (u x).1 = x.1) : (fs.map u).map (·.1) = fs.map (·.1) := by
 rw [List.map_map]
 exact List.map_congr_left fun x _ => hu x
theorem updSure_find (fs : List (Nat × List UInt8 × List UInt8)) (k f : Nat) (s : List UInt8) (h : k ≠ f) : (Ab.updSure fs k s).find? (fun x => decide (x.1 = f)) = fs.find? (fun x => decide (x.1 = f)) := by
 unfold Ab.updSure
 rw [find_map_same _ (fun x => by split <;> rfl)]
 cases hx : fs.find? (fun x => decide (x.1 = f)) with
 | none => rfl
 | some x =>
  have : x.1 = f := by simpa using List.find?_some hx
  have hne : ¬ x.1 = k := by rw [this]; exact fun e => h e.symm
  simp [hne]
theorem lasts_find (stay : List UInt8) (torn cut : Int) (f : Nat) : ∀ (ws : List (Nat × Nat × List UInt8)) (i : Nat) (fs : List (Nat × List UInt8 × List UInt8)), (∀ w ∈ ws, w.1 ≠ f) →
  (Ab.lasts stay torn cut i ws fs).find? (fun x => decide (x.1 = f)) = fs.find? (fun x => decide (x.1 = f))
 | [], i, fs, _ => rfl
 | w :: ws, i, fs, h => by
  unfold Ab.lasts
  split
  ·exact lasts_find stay torn cut f ws (i + 1) fs (fun v hv => h v (List.mem_cons_of_mem _ hv))
  ·rw [lasts_find stay torn cut f ws (i + 1) _ (fun v hv => h v (List.mem_cons_of_mem _ hv)), updSure_find _ _ _ _ (h w (List.mem_cons_self ..))]
theorem lasts_id (stay : List UInt8) (torn cut : Int) : ∀ (ws : List (Nat × Nat × List UInt8)) (i : Nat) (fs : List (Nat × List UInt8 × List UInt8)), (Ab.lasts stay torn cut i ws fs).map (·.1) = fs.map (·.1)
 | [], i, fs => rfl
 | w :: ws, i, fs => by
  unfold Ab.lasts
  split
  ·exact lasts_id stay torn cut ws (i + 1) fs
  ·rw [lasts_id stay torn cut ws (i + 1) _]
   unfold Ab.updSure
   exact ids_map _ _ (fun x => by split <;> rfl)
end Go.Proofs.YtpecmnaikjbanaaGreatDoor
/- blobs, plain: what steps make of any disk, one that fails or goes off, too. -/
namespace Go.Proofs.YtpecmnaikjbanaaGreatDoor
open Go Go.SL
structure Eqv (A B : Ab) : Prop where
 names : B.names = A.names
 states : B.states = A.states
 fs : B.fs = A.fs
 writes : B.writes = A.writes
 room : B.room = A.room
theorem Eqv.refl (A : Ab) : Eqv A A := ⟨rfl, rfl, rfl, rfl, rfl⟩
theorem meet_eqv (A : Ab) (ok : Bool) : Eqv A (A.meet ok).2 := by
 unfold Ab.meet
 split
 ·exact Eqv.refl A
 split
 ·exact Eqv.refl A
 split
 ·exact Eqv.refl A
 split
 ·exact ⟨rfl, rfl, rfl, rfl, rfl⟩
 split <;> exact ⟨rfl, rfl, rfl, rfl, rfl⟩
theorem find_eqv (A : Ab) (nm : ByteArray) (ok : Bool) : Eqv A (A.find nm ok).2.2 ∧ ((A.find nm ok).1 = 0 → ∃ f, A.look nm = some f ∧ (A.find nm ok).2.1 = some f) := by
 have hm := meet_eqv A ok
 unfold Ab.find
 split
 ·have hl : (A.meet ok).2.look nm = A.look nm := by unfold Ab.look; rw [hm.names]
  rw [hl]
  cases A.look nm with
  | none => exact ⟨hm, fun h => absurd h (by simp)⟩
  | some f => exact ⟨hm, fun _ => ⟨f, rfl, rfl⟩⟩
 ·rename_i h
  exact ⟨hm, fun h2 => absurd h2 h⟩
theorem meet_on {A : Ab} {ok : Bool} (h : (A.meet ok).1 = 0) : (A.meet ok).2.off = false ∧ A.off = false := by
 unfold Ab.meet at h ⊢
 by_cases h1 : ok = false
 ·rw [if_pos h1] at h; cases h
 rw [if_neg h1] at h ⊢
 by_cases h2 : A.off = true
 ·rw [if_pos h2] at h; cases h
 rw [if_neg h2] at h ⊢
 have h2' : A.off = false := by simpa using h2
 cases hp : A.plan with
 | nil => exact ⟨h2', h2'⟩
 | cons x p =>
  rw [hp] at h
  simp only at h ⊢
  split
  ·rename_i hx; rw [if_pos hx] at h; cases h
  ·rename_i hx
   rw [if_neg hx] at h
   split
   ·rename_i hy; rw [if_pos hy] at h; cases h
   ·exact ⟨h2', h2'⟩
theorem find_on {A : Ab} {nm : ByteArray} {ok : Bool} (h : (A.find nm ok).1 = 0) : (A.find nm ok).2.2.off = false := by
 unfold Ab.find at h ⊢
 split
 ·rename_i h0
  split <;> exact (meet_on h0).1
 ·rename_i h0
  rw [if_neg h0] at h
  exact absurd h h0
theorem create_cases {nm : ByteArray} {A B : Ab} {e : Nat} (h : stCreate nm A e B) : (e ≠ 0 ∧ Eqv A B) ∨ (e = 0 ∧ A.look nm = none ∧ ∃ f, f ∉ A.fs.map (·.1) ∧ B.names = A.names ++ [(nm, f)] ∧ B.states = A.states ++ [A.names ++ [(nm, f)]] ∧ B.fs = (f, [], []) :: A.fs ∧ B.writes = A.writes) := by
 obtain ⟨f, hf, hc⟩ := h
 have hm := meet_eqv A (isName nm)
 unfold Ab.create at hc
 have hl : (A.meet (isName nm)).2.look nm = A.look nm := by unfold Ab.look; rw [hm.names]
 split at hc
 ·split at hc
  ·injection hc with h1 h2; subst h1 h2; exact .inl ⟨by omega, hm⟩
  split at hc
  ·injection hc with h1 h2; subst h1 h2; exact .inl ⟨by omega, hm⟩
  ·rename_i h1 h2 h3
   injection hc with h4 h5
   subst h4 h5
   refine .inr ⟨rfl, ?_, f, hf, by simp [Ab.chg, hm.names], by simp [Ab.chg, hm.names, hm.states], by simp [hm.fs], hm.writes⟩
   rw [hl] at h2
   cases hx : A.look nm with
   | none => rfl
   | some g => rw [hx] at h2; exact absurd rfl h2
 ·rename_i h1
  injection hc with h2 h3; subst h2 h3; exact .inl ⟨h1, hm⟩
theorem remove_cases {nm : ByteArray} {A B : Ab} {e : Nat} (h : stRemove nm A e B) : (e ≠ 0 ∧ Eqv A B) ∨ (e = 0 ∧ (∃ f, A.look nm = some f) ∧ B.names = Ab.delN A.names nm ∧ B.states = A.states ++ [Ab.delN A.names nm] ∧ B.fs = A.fs ∧ B.writes = A.writes ∧ B.off = false) := by
 have hf := find_eqv A nm (isName nm)
 have hon := @find_on A nm (isName nm)
 unfold stRemove Ab.remove at h
 generalize hx : A.find nm (isName nm) = r at h hf hon
 obtain ⟨e1, o, A1⟩ := r
 obtain ⟨hq, hs⟩ := hf
 simp only at hq hs h hon
 by_cases h0 : e1 = 0
 ·subst h0
  obtain ⟨f, h1, rfl⟩ := hs rfl
  simp only at h
  injection h with h2 h3
  subst h2 h3
  exact .inr ⟨rfl, ⟨f, h1⟩, by simp [Ab.chg, hq.names], by simp [Ab.chg, hq.names, hq.states], hq.fs, hq.writes, hon rfl⟩
 ·have : (e, B) = (e1, A1) := by
   cases e1 with
   | zero => exact absurd rfl h0
   | succ n => exact h
  injection this with h2 h3
  subst h2 h3
  exact .inl ⟨h0, hq⟩
theorem rename_cases {o nm : ByteArray} {A B : Ab} {e : Nat} (h : stRename o nm A e B) : (e ≠ 0 ∧ Eqv A B) ∨ (e = 0 ∧ ∃ f, A.look o = some f ∧ B.names = Ab.setN (Ab.delN A.names o) nm f ∧ B.states = A.states ++ [Ab.setN (Ab.delN A.names o) nm f] ∧ B.fs = A.fs ∧ B.writes = A.writes) := by
 have hf := find_eqv A o ([o, nm].all isName)
 unfold stRename Ab.rename at h
 generalize hx : A.find o ([o, nm].all isName) = r at h hf
 obtain ⟨e1, oo, A1⟩ := r
 obtain ⟨hq, hs⟩ := hf
 simp only at hq hs h
 by_cases h0 : e1 = 0
 ·subst h0
  obtain ⟨f, h1, rfl⟩ := hs rfl
  simp only at h
  injection h with h2 h3
  subst h2 h3
  exact .inr ⟨rfl, f, h1, by simp [Ab.chg, hq.names], by simp [Ab.chg, hq.names, hq.states], hq.fs, hq.writes⟩
 ·have : (e, B) = (e1, A1) := by
   cases e1 with
   | zero => exact absurd rfl h0
   | succ n => exact h
  injection this with h2 h3
  subst h2 h3
  exact .inl ⟨h0, hq⟩
theorem write_cases {nm : ByteArray} {at_ : Nat} {b : List UInt8} {A B : Ab} {e : Nat} (h : stWrite nm at_ b A e B) : (e ≠ 0 ∧ Eqv A B) ∨ (e = 0 ∧ ∃ f, A.look nm = some f ∧ B.names = A.names ∧ B.states = A.states ∧ B.fs = Ab.upd A.fs f (wroteL (A.now f) at_ b) ∧ B.writes = A.writes ++ [(f, at_, b)]) := by
 have hf := find_eqv A nm (mayW nm at_ b)
 unfold stWrite Ab.write at h
 generalize hx : A.find nm (mayW nm at_ b) = r at h hf
 obtain ⟨e1, oo, A1⟩ := r
 obtain ⟨hq, hs⟩ := hf
 simp only at hq hs h
 by_cases h0 : e1 = 0
 ·subst h0
  obtain ⟨f, h1, rfl⟩ := hs rfl
  rw [if_pos rfl] at h
  simp only at h
  split at h
  ·injection h with h2 h3
   subst h2 h3
   exact .inl ⟨by omega, hq⟩
  ·injection h with h2 h3
   subst h2 h3
   have hn : A1.now f = A.now f := by unfold Ab.now Ab.file; rw [hq.fs]
   exact .inr ⟨rfl, f, h1, hq.names, hq.states, by simp only; rw [hq.fs, hn], by simp only; rw [hq.writes]⟩
 ·rw [if_neg h0] at h
  injection h with h2 h3
  subst h2 h3
  exact .inl ⟨h0, hq⟩
theorem sync_cases {nm : ByteArray} {A B : Ab} {e : Nat} (h : stSync nm A e B) : (e ≠ 0 ∧ Eqv A B) ∨ (e = 0 ∧ ∃ f, A.look nm = some f ∧ B.names = A.names ∧ B.states = A.states ∧ B.fs = Ab.updS A.fs f ∧ B.writes = A.writes.filter fun x => !decide (x.1 = f)) := by
 have hf := find_eqv A nm (isName nm)
 unfold stSync Ab.sync at h
 generalize hx : A.find nm (isName nm) = r at h hf
 obtain ⟨e1, oo, A1⟩ := r
 obtain ⟨hq, hs⟩ := hf
 simp only at hq hs h
 by_cases h0 : e1 = 0
 ·subst h0
  obtain ⟨f, h1, rfl⟩ := hs rfl
  rw [if_pos rfl] at h
  simp only at h
  injection h with h2 h3
  subst h2 h3
  exact .inr ⟨rfl, f, h1, hq.names, hq.states, by simp only; rw [hq.fs], by simp only; rw [hq.writes]⟩
 ·rw [if_neg h0] at h
  injection h with h2 h3
  subst h2 h3
  exact .inl ⟨h0, hq⟩
theorem syncNames_cases {A B : Ab} {e : Nat} (h : stSyncNames A e B) : (e ≠ 0 ∧ Eqv A B) ∨ (e = 0 ∧ B.names = A.names ∧ B.states = [A.names] ∧ B.fs = A.fs ∧ B.writes = A.writes) := by
 have hm := meet_eqv A true
 unfold stSyncNames Ab.syncNames at h
 split at h
 ·injection h with h1 h2
  subst h1 h2
  exact .inr ⟨rfl, hm.names, by simp [hm.names], hm.fs, hm.writes⟩
 ·rename_i h0
  injection h with h1 h2
  subst h1 h2
  exact .inl ⟨h0, hm⟩
/-! ## names looked up -/
abbrev Nms := List (ByteArray × Nat)
theorem lookIn_app (l : Nms) (k nm : ByteArray) (f : Nat) : Ab.lookIn (l ++ [(k, f)]) nm = (Ab.lookIn l nm).or (if nm = k then some f else none) := by
 unfold Ab.lookIn
 rw [List.find?_append]
 cases hx : l.find? (fun x => decide (x.1 = nm)) with
 | some x => simp
 | none =>
  by_cases h : nm = k
  ·simp [h]
  ·have : ¬ k = nm := fun e => h e.symm
   simp [h, this]
theorem lookIn_set (l : Nms) (k nm : ByteArray) (f : Nat) : Ab.lookIn (Ab.setN l k f) nm = if nm = k then some f else Ab.lookIn l nm := by
 unfold Ab.setN
 split
 ·rename_i h
  unfold Ab.lookIn at h ⊢
  rw [List.find?_map]
  have hf : ((fun x : ByteArray × Nat => decide (x.1 = nm)) ∘ fun x : ByteArray × Nat => if x.1 = k then (k, f) else x) = fun x => decide (x.1 = nm) := by
   funext x
   have he : (if x.1 = k then (k, f) else x).1 = x.1 := by
    split
    ·rename_i h; exact h.symm
    ·rfl
   exact decide_eq_decide.2 (by rw [he])
  rw [hf]
  by_cases hn : nm = k
  ·subst hn
   rw [if_pos rfl]
   cases hx : l.find? (fun x => decide (x.1 = nm)) with
   | none => rw [hx] at h; cases h
   | some x =>
    have : x.1 = nm := by simpa using List.find?_some hx
    simp [this]
  ·rw [if_neg hn]
   cases hx : l.find? (fun x => decide (x.1 = nm)) with
   | none => rfl
   | some x =>
    have h1 : x.1 = nm := by simpa using List.find?_some hx
    have h2 : ¬ x.1 = k := fun e => hn (h1.symm.trans e)
    simp [h2]
 ·rename_i h
  rw [lookIn_app]
  by_cases hn : nm = k
  ·subst hn
   rw [if_pos rfl, if_pos rfl]
   cases hx : Ab.lookIn l nm with
   | none => rfl
   | some g => rw [hx] at h; exact absurd rfl h
  ·rw [if_neg hn, if_neg hn]
   cases Ab.lookIn l nm <;> rfl
/-! ## files -/
theorem file_eq {A B : Ab} (h : B.fs = A.fs) (f : Nat) : B.file f = A.file f := by unfold Ab.file; rw [h]
theorem file_new {A B : Ab} {f : Nat} (h : B.fs = (f, [], []) :: A.fs) (g : Nat) : B.file g = if f = g then ([], []) else A.file g := by
 unfold Ab.file
 rw [h, List.find?_cons]
 by_cases he : f = g <;> simp [he]
theorem file_upd {A B : Ab} {f : Nat} {c : List UInt8} (h : B.fs = Ab.upd A.fs f c) {g : Nat} (hg : g ∈ A.fs.map (·.1)) : B.file g = if g = f then (c, (A.file g).2) else A.file g := by
 have h1 : B.file g = ({ A with fs := A.fs.map fun x => if x.1 = f then (x.1, c, x.2.2) else x } : Ab).file g := file_eq h g
 rw [h1, file_map A (fun x => if x.1 = f then (x.1, c, x.2.2) else x) (fun x => by split <;> rfl) hg]
 by_cases he : g = f <;> simp [he]
theorem file_updS {A B : Ab} {f : Nat} (h : B.fs = Ab.updS A.fs f) {g : Nat} (hg : g ∈ A.fs.map (·.1)) : B.file g = if g = f then ((A.file g).1, (A.file g).1) else A.file g := by
 have h1 : B.file g = ({ A with fs := A.fs.map fun x => if x.1 = f then (x.1, x.2.1, x.2.1) else x } : Ab).file g := file_eq h g
 rw [h1, file_map A (fun x => if x.1 = f then (x.1, x.2.1, x.2.1) else x) (fun x => by split <;> rfl) hg]
 by_cases he : g = f <;> simp [he]
theorem ids_new {A B : Ab} {f : Nat} (h : B.fs = (f, [], []) :: A.fs) : B.fs.map (·.1) = f :: A.fs.map (·.1) := by rw [h]; rfl
theorem ids_upd {A B : Ab} {f : Nat} {c : List UInt8} (h : B.fs = Ab.upd A.fs f c) : B.fs.map (·.1) = A.fs.map (·.1) := by rw [h]; exact ids_map _ _ (fun x => by split <;> rfl)
theorem ids_updS {A B : Ab} {f : Nat} (h : B.fs = Ab.updS A.fs f) : B.fs.map (·.1) = A.fs.map (·.1) := by rw [h]; exact ids_map _ _ (fun x => by split <;> rfl)
def Cl (A : Ab) (f : Nat) : Prop := (A.file f).2 = (A.file f).1 ∧ ∀ w ∈ A.writes, w.1 ≠ f
theorem crash_file {A : Ab} (last : Int) (stay : List UInt8) (torn cut : Int) {f : Nat} (hf : f ∈ A.fs.map (·.1)) (hr : f ∈ Ab.reach (A.states ++ [(A.crash last stay torn cut).names])) : (A.crash last stay torn cut).file f = (((A.crash last stay torn cut).file f).1, ((A.crash last stay torn cut).file f).1) ∧ (Cl A f → (A.crash last stay torn cut).file f = A.file f) := by
 have hids := lasts_id stay torn cut A.writes 0 A.fs
 have hmem : f ∈ (Ab.lasts stay torn cut 0 A.writes A.fs).map (·.1) := by rw [hids]; exact hf
 obtain ⟨x, hx, hxf⟩ := find_mem hmem
 have hfile : (A.crash last stay torn cut).file f = (x.2.2, x.2.2) := by
  have hr' := hr
  simp only [Ab.crash] at hr' ⊢
  unfold Ab.file
  simp only
  rw [find_map_same _ (fun x => by split <;> rfl), hx]
  simp only [Option.map_some, Option.getD_some]
  rw [if_pos (by rw [hxf]; exact hr')]
 refine ⟨by rw [hfile], fun hc => ?_⟩
 have hl := lasts_find stay torn cut f A.writes 0 A.fs hc.2
 have hA : A.file f = x.2 := by
  unfold Ab.file
  rw [← hl, hx]
  rfl
 have h2 := hc.1
 rw [hA] at h2
 rw [hfile, hA]
 exact Prod.ext h2 rfl
end Go.Proofs.YtpecmnaikjbanaaGreatDoor
/- blobs, plain: what any crash leaves right: kept by each step. -/
namespace Go.Proofs.YtpecmnaikjbanaaGreatDoor
open Go Go.SL
structure Good (A : Ab) (st : Nms) : Prop where
 b : ∀ d f, Ab.lookIn st (fBd d) = some f → Cl A f ∧ sumL (A.now f) = d
 i : ∀ d f, Ab.lookIn st (fI d) = some f → Cl A f ∧ ∃ l, decB (A.now f) = some l ∧ nameB l = d ∧ ∀ y ∈ l, (Ab.lookIn st (fBd y.d)).isSome = true
def Inj (st : Nms) : Prop := ∀ a b f, Ab.lookIn st a = some f → Ab.lookIn st b = some f → a = b
structure LG (A : Ab) : Prop where
 good : ∀ st ∈ A.states, Good A st
 inj : ∀ st ∈ A.states, Inj st
 mem : A.names ∈ A.states
 known : ∀ st ∈ A.states, ∀ nm f, Ab.lookIn st nm = some f → f ∈ A.fs.map (·.1)
 knownW : ∀ w ∈ A.writes, w.1 ∈ A.fs.map (·.1)
structure LQ (A : Ab) : Prop where
 same : ∀ st ∈ A.states, ∀ d, Ab.lookIn st (fBd d) = A.look (fBd d) ∧ Ab.lookIn st (fI d) = A.look (fI d)
 noN : ∀ d, A.look (fN d) = none
structure LH (A : Ab) (th mb : Dg → Prop) : Prop where
 lg : LG A
 ths : ∀ d, th d → ∀ st ∈ A.states, (Ab.lookIn st (fI d)).isSome = true
 im : ∀ st ∈ A.states, ∀ d, (Ab.lookIn st (fI d)).isSome = true → th d ∨ mb d
theorem LH.weak {A : Ab} {th mb th' mb' : Dg → Prop} (h : LH A th mb) (h1 : ∀ d, th' d → th d) (h2 : ∀ d, th d ∨ mb d → th' d ∨ mb' d) : LH A th' mb' := ⟨h.lg, fun d hd => h.ths d (h1 d hd), fun st hst d hd => h2 d (h.im st hst d hd)⟩
theorem now_file {A B : Ab} {f : Nat} (h : B.file f = A.file f) : B.now f = A.now f := by unfold Ab.now; rw [h]
theorem Good.keep {A B : Ab} {st : Nms} (h : Good A st) (hk : ∀ nm f, Ab.lookIn st nm = some f → (∃ d, nm = fBd d ∨ nm = fI d) → (B.now f = A.now f ∧ (Cl A f → Cl B f))) : Good B st := by
 refine ⟨fun d f hf => ?_, fun d f hf => ?_⟩
 ·obtain ⟨h1, h2⟩ := hk _ _ hf ⟨d, .inl rfl⟩
  obtain ⟨h3, h4⟩ := h.b d f hf
  exact ⟨h2 h3, by rw [h1]; exact h4⟩
 ·obtain ⟨h1, h2⟩ := hk _ _ hf ⟨d, .inr rfl⟩
  obtain ⟨h3, h4⟩ := h.i d f hf
  exact ⟨h2 h3, by rw [h1]; exact h4⟩
theorem Cl.same {A B : Ab} {f : Nat} (h : Cl A f) (h1 : B.file f = A.file f) (h2 : B.writes = A.writes) : Cl B f := ⟨by rw [h1]; exact h.1, by rw [h2]; exact h.2⟩
theorem LG.of_same {A B : Ab} (h : LG A) (hf : B.fs = A.fs) (hw : B.writes = A.writes) (hs : ∀ st ∈ B.states, st ∈ A.states ∨ (Good A st ∧ Inj st ∧ ∀ nm f, Ab.lookIn st nm = some f → f ∈ A.fs.map (·.1))) (hm : B.names ∈ B.states) : LG B := by
 have hg : ∀ st, Good A st → Good B st := fun st hg => hg.keep fun nm f _ _ => ⟨now_file (file_eq hf f), fun hc => hc.same (file_eq hf f) hw⟩
 refine ⟨fun st hst => ?_, fun st hst => ?_, hm, fun st hst => ?_, by rw [hf, hw]; exact h.knownW⟩
 ·rcases hs st hst with h1 | ⟨h1, _⟩
  ·exact hg st (h.good st h1)
  ·exact hg st h1
 ·rcases hs st hst with h1 | ⟨_, h1, _⟩
  ·exact h.inj st h1
  ·exact h1
 ·rw [hf]
  rcases hs st hst with h1 | ⟨_, _, h1⟩
  ·exact h.known st h1
  ·exact h1
theorem LH.eqv {A B : Ab} {th mb : Dg → Prop} (h : LH A th mb) (e : Eqv A B) : LH B th mb :=
 ⟨h.lg.of_same e.fs e.writes (fun st hst => .inl (by rw [e.states] at hst; exact hst)) (by rw [e.names, e.states]; exact h.lg.mem), by rw [e.states]; exact h.ths, by rw [e.states]; exact h.im⟩
theorem LQ.eqv {A B : Ab} (h : LQ A) (e : Eqv A B) : LQ B := by
 have hl : ∀ nm, B.look nm = A.look nm := fun nm => by unfold Ab.look; rw [e.names]
 exact ⟨fun st hst d => by rw [hl, hl]; exact h.same st (by rw [e.states] at hst; exact hst) d, fun d => by rw [hl]; exact h.noN d⟩
theorem LH.names {A : Ab} {th mb : Dg → Prop} (h : LH A th mb) : Good A A.names ∧ Inj A.names ∧ ∀ nm f, A.look nm = some f → f ∈ A.fs.map (·.1) := ⟨h.lg.good _ h.lg.mem, h.lg.inj _ h.lg.mem, h.lg.known _ h.lg.mem⟩
theorem LH.syncNames {A B : Ab} {th mb : Dg → Prop} {e : Nat} (h : LH A th mb) (hs : stSyncNames A e B) : LH B th mb ∧ (e = 0 → B.states = [A.names] ∧ B.names = A.names ∧ B.fs = A.fs ∧ B.writes = A.writes) := by
 rcases syncNames_cases hs with ⟨h0, hq⟩ | ⟨h0, h1, h2, h3, h4⟩
 ·exact ⟨h.eqv hq, fun h => absurd h h0⟩
 ·refine ⟨⟨h.lg.of_same h3 h4 (fun st hst => .inl (by rw [h2, List.mem_singleton] at hst; rw [hst]; exact h.lg.mem)) (by rw [h1, h2]; exact List.mem_singleton.2 rfl), fun d hd st hst => ?_, fun st hst d => ?_⟩, fun _ => ⟨h2, h1, h3, h4⟩⟩
  ·rw [h2, List.mem_singleton] at hst
   rw [hst]; exact h.ths d hd _ h.lg.mem
  ·rw [h2, List.mem_singleton] at hst
   rw [hst]; exact h.im _ h.lg.mem d
theorem LQ.one {A : Ab} (h : A.states = [A.names]) (hn : ∀ d, A.look (fN d) = none) : LQ A := ⟨fun st hst d => by rw [h, List.mem_singleton] at hst; rw [hst]; exact ⟨rfl, rfl⟩, hn⟩
theorem LH.chg {A B : Ab} {th mb th' mb' : Dg → Prop} {nm : Nms} (h : LH A th mb) (hn : B.names = nm) (hs : B.states = A.states ++ [nm]) (hf : B.fs = A.fs) (hw : B.writes = A.writes) (hg : Good A nm) (hi : Inj nm) (hk : ∀ a f, Ab.lookIn nm a = some f → f ∈ A.fs.map (·.1))
  (hth : ∀ d, th' d → th d ∧ (Ab.lookIn nm (fI d)).isSome = true) (him : ∀ d, th d ∨ mb d → th' d ∨ mb' d) (him2 : ∀ d, (Ab.lookIn nm (fI d)).isSome = true → th' d ∨ mb' d) : LH B th' mb' := by
 refine ⟨h.lg.of_same hf hw (fun st hst => ?_) (by rw [hn, hs]; simp), fun d hd st hst => ?_, fun st hst d hd => ?_⟩
 ·rw [hs] at hst
  rcases List.mem_append.1 hst with h1 | h1
  ·exact .inl h1
  ·rw [List.mem_singleton.1 h1]; exact .inr ⟨hg, hi, hk⟩
 ·rw [hs] at hst
  rcases List.mem_append.1 hst with h1 | h1
  ·exact h.ths d (hth d hd).1 st h1
  ·rw [List.mem_singleton.1 h1]; exact (hth d hd).2
 ·rw [hs] at hst
  rcases List.mem_append.1 hst with h1 | h1
  ·exact him d (h.im st h1 d hd)
  ·rw [List.mem_singleton.1 h1] at hd; exact him2 d hd
/-! ## Create -/
theorem LH.create {A B : Ab} {th mb : Dg → Prop} {e : Nat} {k : ByteArray} (h : LH A th mb) (hB : ∀ d, k ≠ fBd d) (hI : ∀ d, k ≠ fI d) (hs : stCreate k A e B) :
  LH B th mb ∧ (e = 0 → A.look k = none ∧ (∀ nm, nm ≠ k → B.look nm = A.look nm) ∧ (B.look k).isSome = true ∧ (∀ nm f, nm ≠ k → A.look nm = some f → B.file f = A.file f) ∧ ∀ f, B.look k = some f → B.now f = [] ∧ ∀ st ∈ B.states, ∀ nm, nm ≠ k → Ab.lookIn st nm ≠ some f) := by
 rcases create_cases hs with ⟨h0, hq⟩ | ⟨h0, hk, f, hf, h1, h2, h3, h4⟩
 ·exact ⟨h.eqv hq, fun h => absurd h h0⟩
 ·have hfile : ∀ g, g ∈ A.fs.map (·.1) → B.file g = A.file g := fun g hg => by
   rw [file_new h3, if_neg (fun e => hf (by rw [e]; exact hg))]
  have hlk : ∀ nm, Ab.lookIn (A.names ++ [(k, f)]) nm = if nm = k then some f else A.look nm := fun nm => by
   rw [lookIn_app]
   by_cases hn : nm = k
   ·subst hn
    have : Ab.lookIn A.names nm = none := hk
    rw [this, if_pos rfl, if_pos rfl]; rfl
   ·rw [if_neg hn, if_neg hn]
    show (A.look nm).or none = _
    cases A.look nm <;> rfl
  have hgood : ∀ st ∈ A.states, Good B st := fun st hst => (h.lg.good st hst).keep fun nm g hg _ => by
   have h5 := hfile g (h.lg.known st hst nm g hg)
   exact ⟨now_file h5, fun hc => hc.same h5 h4⟩
  obtain ⟨n1, n2, n3⟩ := h.names
  have hnB := hgood _ h.lg.mem
  refine ⟨⟨⟨fun st hst => ?_, fun st hst => ?_, by rw [h1, h2]; simp, fun st hst => ?_, ?_⟩, fun d hd st hst => ?_, fun st hst d hd => ?_⟩, fun _ => ⟨hk, fun nm hn => ?_, ?_, fun nm g hn hg => hfile g (n3 nm g hg), fun g hg => ?_⟩⟩
  ·rw [h2] at hst
   rcases List.mem_append.1 hst with h5 | h5
   ·exact hgood st h5
   ·rw [List.mem_singleton.1 h5]
    refine ⟨fun d g hg => ?_, fun d g hg => ?_⟩
    ·rw [hlk, if_neg (fun e => hB d e.symm)] at hg
     exact hnB.b d g hg
    ·rw [hlk, if_neg (fun e => hI d e.symm)] at hg
     obtain ⟨h6, l, h7, h8, h9⟩ := hnB.i d g hg
     exact ⟨h6, l, h7, h8, fun y hy => by rw [hlk, if_neg (fun e => hB _ e.symm)]; exact h9 y hy⟩
  ·rw [h2] at hst
   rcases List.mem_append.1 hst with h5 | h5
   ·exact h.lg.inj st h5
   ·rw [List.mem_singleton.1 h5]
    intro a b g ha hb
    rw [hlk] at ha hb
    split at ha
    ·split at hb
     ·rename_i e1 e2; rw [e1, e2]
     ·injection ha with ha; subst ha; exact absurd (n3 _ _ hb) hf
    ·split at hb
     ·injection hb with hb; subst hb; exact absurd (n3 _ _ ha) hf
     ·exact n2 a b g ha hb
  ·rw [ids_new h3]
   rw [h2] at hst
   rcases List.mem_append.1 hst with h5 | h5
   ·exact fun nm g hg => List.mem_cons_of_mem _ (h.lg.known st h5 nm g hg)
   ·rw [List.mem_singleton.1 h5]
    intro nm g hg
    rw [hlk] at hg
    split at hg
    ·injection hg with hg; subst hg; exact List.mem_cons_self ..
    ·exact List.mem_cons_of_mem _ (n3 nm g hg)
  ·rw [ids_new h3, h4]
   exact fun w hw => List.mem_cons_of_mem _ (h.lg.knownW w hw)
  ·rw [h2] at hst
   rcases List.mem_append.1 hst with h5 | h5
   ·exact h.ths d hd st h5
   ·rw [List.mem_singleton.1 h5, hlk, if_neg (fun e => hI d e.symm)]
    exact h.ths d hd _ h.lg.mem
  ·rw [h2] at hst
   rcases List.mem_append.1 hst with h5 | h5
   ·exact h.im st h5 d hd
   ·rw [List.mem_singleton.1 h5, hlk, if_neg (fun e => hI d e.symm)] at hd
    exact h.im _ h.lg.mem d hd
  ·show Ab.lookIn B.names nm = _
   rw [h1, hlk, if_neg hn]
  ·show (Ab.lookIn B.names k).isSome = true
   rw [h1, hlk, if_pos rfl]; rfl
  ·have hg2 : Ab.lookIn B.names k = some g := hg
   rw [h1, hlk, if_pos rfl] at hg2
   injection hg2 with hg2
   subst hg2
   refine ⟨by unfold Ab.now; rw [file_new h3, if_pos rfl], fun st hst nm hn hx => ?_⟩
   rw [h2] at hst
   rcases List.mem_append.1 hst with h5 | h5
   ·exact hf (h.lg.known st h5 nm f hx)
   ·rw [List.mem_singleton.1 h5, hlk, if_neg hn] at hx
    exact hf (n3 nm f hx)
/-! ## Write, Sync -/
theorem LH.write {A B : Ab} {th mb : Dg → Prop} {e : Nat} {k : ByteArray} {at_ : Nat} {b : List UInt8} (h : LH A th mb) (hp : ∀ f, A.look k = some f → ∀ st ∈ A.states, ∀ d, Ab.lookIn st (fBd d) ≠ some f ∧ Ab.lookIn st (fI d) ≠ some f) (hs : stWrite k at_ b A e B) :
  LH B th mb ∧ B.names = A.names ∧ B.states = A.states ∧ (e = 0 → ∃ f, A.look k = some f ∧ B.now f = wroteL (A.now f) at_ b) ∧ (∀ nm f, A.look nm = some f → nm ≠ k → B.file f = A.file f ∧ (Cl A f → Cl B f)) := by
 obtain ⟨n1, n2, n3⟩ := h.names
 rcases write_cases hs with ⟨h0, hq⟩ | ⟨h0, f, hf, h1, h2, h3, h4⟩
 ·exact ⟨h.eqv hq, hq.names, hq.states, fun h => absurd h h0, fun nm f _ _ => ⟨file_eq hq.fs f, fun hc => hc.same (file_eq hq.fs f) hq.writes⟩⟩
 ·have hfile : ∀ g, g ∈ A.fs.map (·.1) → g ≠ f → B.file g = A.file g ∧ (Cl A g → Cl B g) := fun g hg hne => by
   have h5 : B.file g = A.file g := by rw [file_upd h3 hg, if_neg hne]
   refine ⟨h5, fun hc => ⟨by rw [h5]; exact hc.1, fun w hw => ?_⟩⟩
   rw [h4] at hw
   rcases List.mem_append.1 hw with h6 | h6
   ·exact hc.2 w h6
   ·rw [List.mem_singleton.1 h6]; exact fun e => hne e.symm
  refine ⟨⟨⟨fun st hst => ?_, by rw [h2]; exact h.lg.inj, by rw [h1, h2]; exact h.lg.mem, by rw [h2, ids_upd h3]; exact h.lg.known, ?_⟩, by rw [h2]; exact h.ths, by rw [h2]; exact h.im⟩, h1, h2, fun _ => ⟨f, hf, ?_⟩, fun nm g hg hne => ?_⟩
  ·rw [h2] at hst
   refine (h.lg.good st hst).keep fun nm g hg hd => ?_
   have hne : g ≠ f := fun e => by
    subst e
    obtain ⟨d, rfl | rfl⟩ := hd
    ·exact (hp _ hf st hst d).1 hg
    ·exact (hp _ hf st hst d).2 hg
   obtain ⟨h5, h6⟩ := hfile g (h.lg.known st hst nm g hg) hne
   exact ⟨now_file h5, h6⟩
  ·rw [ids_upd h3, h4]
   intro w hw
   rcases List.mem_append.1 hw with h6 | h6
   ·exact h.lg.knownW w h6
   ·rw [List.mem_singleton.1 h6]; exact n3 k f hf
  ·show (B.file f).1 = _
   rw [file_upd h3 (n3 k f hf), if_pos rfl]
  ·exact hfile g (n3 nm g hg) (fun e => hne (by subst e; exact n2 _ _ _ hg hf))
theorem LH.sync {A B : Ab} {th mb : Dg → Prop} {e : Nat} {k : ByteArray} (h : LH A th mb) (hs : stSync k A e B) :
  LH B th mb ∧ B.names = A.names ∧ B.states = A.states ∧ (∀ nm f, A.look nm = some f → B.now f = A.now f ∧ (Cl A f → Cl B f)) ∧ (e = 0 → ∀ f, A.look k = some f → Cl B f) := by
 obtain ⟨n1, n2, n3⟩ := h.names
 rcases sync_cases hs with ⟨h0, hq⟩ | ⟨h0, f, hf, h1, h2, h3, h4⟩
 ·exact ⟨h.eqv hq, hq.names, hq.states, fun nm f _ => ⟨now_file (file_eq hq.fs f), fun hc => hc.same (file_eq hq.fs f) hq.writes⟩, fun h => absurd h h0⟩
 ·have hfile : ∀ g, g ∈ A.fs.map (·.1) → B.now g = A.now g ∧ (Cl A g → Cl B g) := fun g hg => by
   have h5 := file_updS h3 hg
   refine ⟨?_, fun hc => ⟨?_, fun w hw => ?_⟩⟩
   ·unfold Ab.now
    rw [h5]
    split <;> rfl
   ·rw [h5]
    split
    ·rfl
    ·exact hc.1
   ·rw [h4] at hw
    exact hc.2 w (List.mem_filter.1 hw).1
  refine ⟨⟨⟨fun st hst => ?_, by rw [h2]; exact h.lg.inj, by rw [h1, h2]; exact h.lg.mem, by rw [h2, ids_updS h3]; exact h.lg.known, ?_⟩, by rw [h2]; exact h.ths, by rw [h2]; exact h.im⟩, h1, h2, fun nm g hg => hfile g (n3 nm g hg), fun _ g hg => ?_⟩
  ·rw [h2] at hst
   exact (h.lg.good st hst).keep fun nm g hg _ => hfile g (h.lg.known st hst nm g hg)
  ·rw [ids_updS h3, h4]
   exact fun w hw => h.lg.knownW w (List.mem_filter.1 hw).1
  ·rw [hf] at hg
   injection hg with hg
   subst hg
   refine ⟨by rw [file_updS h3 (n3 k f hf), if_pos rfl], fun w hw => ?_⟩
   rw [h4] at hw
   simpa using (List.mem_filter.1 hw).2
/-! ## Remove -/
theorem Inj.del {st : Nms} (h : Inj st) (k : ByteArray) : Inj (Ab.delN st k) := fun a b f ha hb => by
 rw [look_del] at ha hb
 split at ha
 ·cases ha
 ·split at hb
  ·cases hb
  ·exact h a b f ha hb
theorem LH.remove {A B : Ab} {th mb th' mb' : Dg → Prop} {e : Nat} {k : ByteArray} (h : LH A th mb) (hB : ∀ y : Bl, k = fBd y.d → ∀ d f l, A.look (fI d) = some f → decB (A.now f) = some l → ∀ z ∈ l, z.d ≠ y.d)
  (hth : ∀ d, th' d → th d ∧ fI d ≠ k) (him : ∀ d, th d ∨ mb d → th' d ∨ mb' d) (hs : stRemove k A e B) :
  LH B th' mb' ∧ (e ≠ 0 → Eqv A B) ∧ (e = 0 → B.names = Ab.delN A.names k ∧ B.states = A.states ++ [Ab.delN A.names k] ∧ B.fs = A.fs ∧ B.writes = A.writes ∧ B.off = false) := by
 obtain ⟨n1, n2, n3⟩ := h.names
 rcases remove_cases hs with ⟨h0, hq⟩ | ⟨h0, hk, h1, h2, h3, h4, h9⟩
 ·exact ⟨(h.eqv hq).weak (fun d hd => (hth d hd).1) him, fun _ => hq, fun h => absurd h h0⟩
 ·have hlk : ∀ nm, Ab.lookIn (Ab.delN A.names k) nm = if nm = k then none else A.look nm := fun nm => look_del A.names k nm
  refine ⟨h.chg h1 h2 h3 h4 ⟨fun d f hf => ?_, fun d f hf => ?_⟩ (n2.del k) (fun a f ha => ?_) (fun d hd => ?_) him (fun d hd => ?_), fun h => absurd h0 h, fun _ => ⟨h1, h2, h3, h4, h9⟩⟩
  ·rw [hlk] at hf
   split at hf
   ·cases hf
   ·exact n1.b d f hf
  ·rw [hlk] at hf
   split at hf
   ·cases hf
   ·obtain ⟨h5, l, h6, h7, h8⟩ := n1.i d f hf
    refine ⟨h5, l, h6, h7, fun y hy => ?_⟩
    rw [hlk, if_neg (fun e => hB y e.symm d f l hf h6 y hy rfl)]
    exact h8 y hy
  ·rw [hlk] at ha
   split at ha
   ·cases ha
   ·exact n3 a f ha
  ·rw [hlk, if_neg (hth d hd).2]
   exact ⟨(hth d hd).1, h.ths d (hth d hd).1 _ h.lg.mem⟩
  ·rw [hlk] at hd
   split at hd
   ·cases hd
   ·exact him d (h.im _ h.lg.mem d hd)
/-! ## Rename -/
theorem Inj.move {st : Nms} (h : Inj st) {o n : ByteArray} {f : Nat} (ho : Ab.lookIn st o = some f) : Inj (Ab.setN (Ab.delN st o) n f) := fun a b g ha hb => by
 have key : ∀ c, Ab.lookIn (Ab.setN (Ab.delN st o) n f) c = some g → (c = n ∧ g = f) ∨ (c ≠ n ∧ c ≠ o ∧ Ab.lookIn st c = some g) := fun c hc => by
  rw [lookIn_set, look_del] at hc
  split at hc
  ·rename_i e; injection hc with hc; exact .inl ⟨e, hc.symm⟩
  ·split at hc
   ·cases hc
   ·rename_i e1 e2; exact .inr ⟨e1, e2, hc⟩
 rcases key a ha with ⟨e1, e2⟩ | ⟨e1, e2, e3⟩
 ·rcases key b hb with ⟨e4, e5⟩ | ⟨e4, e5, e6⟩
  ·rw [e1, e4]
  ·rw [e2] at e6; exact absurd (h _ _ _ e6 ho) e5
 ·rcases key b hb with ⟨e4, e5⟩ | ⟨e4, e5, e6⟩
  ·rw [e5] at e3; exact absurd (h _ _ _ e3 ho) e2
  ·exact h a b g e3 e6
theorem LH.rename {A B : Ab} {th mb mb' : Dg → Prop} {e : Nat} {o n : ByteArray} (h : LH A th mb) (hoB : ∀ d, o ≠ fBd d) (hoI : ∀ d, o ≠ fI d) (hmb : ∀ d, mb d → mb' d)
  (hB : ∀ d f, n = fBd d → A.look o = some f → Cl A f ∧ sumL (A.now f) = d) (hI : ∀ d f, n = fI d → A.look o = some f → (Cl A f ∧ ∃ l, decB (A.now f) = some l ∧ nameB l = d ∧ ∀ y ∈ l, (A.look (fBd y.d)).isSome = true) ∧ mb' d) (hs : stRename o n A e B) :
  LH B th mb' ∧ (e = 0 → B.fs = A.fs ∧ B.writes = A.writes ∧ ∃ f, A.look o = some f ∧ ∀ nm, B.look nm = if nm = n then some f else if nm = o then none else A.look nm) := by
 obtain ⟨n1, n2, n3⟩ := h.names
 rcases rename_cases hs with ⟨h0, hq⟩ | ⟨h0, f, hf, h1, h2, h3, h4⟩
 ·exact ⟨(h.eqv hq).weak (fun d hd => hd) (fun d hd => hd.imp id (hmb d)), fun h => absurd h h0⟩
 ·have hlk : ∀ nm, Ab.lookIn (Ab.setN (Ab.delN A.names o) n f) nm = if nm = n then some f else if nm = o then none else A.look nm := fun nm => by rw [lookIn_set, look_del]; rfl
  have hBs : ∀ d, (A.look (fBd d)).isSome = true → (Ab.lookIn (Ab.setN (Ab.delN A.names o) n f) (fBd d)).isSome = true := fun d hd => by
   rw [hlk]
   split
   ·rfl
   ·rw [if_neg (fun e => hoB d e.symm)]; exact hd
  refine ⟨h.chg h1 h2 h3 h4 ⟨fun d g hg => ?_, fun d g hg => ?_⟩ (n2.move hf) (fun a g ha => ?_) (fun d hd => ⟨hd, ?_⟩) (fun d hd => hd.imp id (hmb d)) (fun d hd => ?_), fun _ => ⟨h3, h4, f, hf, fun nm => ?_⟩⟩
  ·rw [hlk] at hg
   split at hg
   ·rename_i e
    injection hg with hg
    subst hg
    exact hB d f e.symm hf
   ·rw [if_neg (fun e => hoB d e.symm)] at hg
    exact n1.b d g hg
  ·rw [hlk] at hg
   split at hg
   ·rename_i e
    injection hg with hg
    subst hg
    obtain ⟨⟨h5, l, h6, h7, h8⟩, _⟩ := hI d f e.symm hf
    exact ⟨h5, l, h6, h7, fun y hy => hBs _ (h8 y hy)⟩
   ·rw [if_neg (fun e => hoI d e.symm)] at hg
    obtain ⟨h5, l, h6, h7, h8⟩ := n1.i d g hg
    exact ⟨h5, l, h6, h7, fun y hy => hBs _ (h8 y hy)⟩
  ·rw [hlk] at ha
   split at ha
   ·injection ha with ha; subst ha; exact n3 o f hf
   ·split at ha
    ·cases ha
    ·exact n3 a g ha
  ·rw [hlk]
   split
   ·rfl
   ·rw [if_neg (fun e => hoI d e.symm)]; exact h.ths d hd _ h.lg.mem
  ·rw [hlk] at hd
   split at hd
   ·rename_i e; exact .inr (hI d f e.symm hf).2
   ·rw [if_neg (fun e => hoI d e.symm)] at hd
    exact (h.im _ h.lg.mem d hd).imp id (hmb d)
  ·show Ab.lookIn B.names nm = _
   rw [h1, hlk]
end Go.Proofs.YtpecmnaikjbanaaGreatDoor
/- blobs, plain: what any crash leaves right: kept by a store's changes. -/
namespace Go.Proofs.YtpecmnaikjbanaaGreatDoor
open Go Go.SL
def LS (s : Sto) (th mb : Dg → Prop) : Prop := LH s.A th mb ∧ (s.brk = false → LQ s.A)
theorem LQ.free {A : Ab} {th mb : Dg → Prop} (h : LH A th mb) (q : LQ A) {x : Dg} {f : Nat} (hf : A.look (fSd x) = some f) : ∀ st ∈ A.states, ∀ d, Ab.lookIn st (fBd d) ≠ some f ∧ Ab.lookIn st (fI d) ≠ some f := fun st hst d => by
 obtain ⟨_, n2, _⟩ := h.names
 obtain ⟨h1, h2⟩ := q.same st hst d
 rw [h1, h2]
 exact ⟨fun e => fSd_ne_fBd _ _ (n2 _ _ _ hf e), fun e => fSd_ne_fI _ _ (n2 _ _ _ hf e)⟩
theorem LS.of {A : Ab} {beg : List (Dg × Bl)} {brk : Bool} {th mb : Dg → Prop} (h : LH A th mb) (q : brk = false → LQ A) : LS ⟨A, beg, brk⟩ th mb := ⟨h, q⟩
theorem or_ne {b : Bool} {e : Nat} (h : (b || decide (e ≠ 0)) = false) : b = false ∧ e = 0 := by
 cases b with
 | true => cases h
 | false => exact ⟨rfl, by simpa using h⟩
theorem LS.begin {q : Int} {x : Bl} {s t : Sto} {e : Nat} {th mb : Dg → Prop} (h : LS s th mb) (hR : BeginR q x s e t) : LS t th mb := by
 unfold BeginR at hR
 split at hR
 ·rw [hR.2]; exact h
 rename_i hb
 have hb' : s.brk = false := by simpa using hb
 split at hR
 ·rw [hR.2]; exact h
 split at hR
 ·rw [hR.2]; exact h
 split at hR
 ·rw [hR.2]; exact h
 split at hR
 ·rw [hR.2]; exact h
 ·obtain ⟨e1, s1, ⟨B, hruns, rfl⟩, hc⟩ := hR
  have key : LH B th mb ∧ (e1 = 0 → LQ B) := by
   obtain ⟨e2, A1, h1, hc1⟩ := hruns
   obtain ⟨g1, k1⟩ := h.1.create (fun d => fSd_ne_fBd _ _) (fun d => fSd_ne_fI _ _) h1
   rcases hc1 with ⟨hne, rfl, rfl⟩ | ⟨h0, e3, A2, h2, hc2⟩
   ·exact ⟨g1, fun h => absurd h hne⟩
   obtain ⟨_, k2, _⟩ := k1 h0
   obtain ⟨g2, k3⟩ := g1.syncNames h2
   rcases hc2 with ⟨hne, rfl, rfl⟩ | ⟨h3, rfl, rfl⟩
   ·exact ⟨g2, fun h => absurd h hne⟩
   obtain ⟨k4, k5, _⟩ := k3 h3
   refine ⟨g2, fun _ => LQ.one (by rw [k4, k5]) fun d => ?_⟩
   have : B.look (fN d) = A1.look (fN d) := by unfold Ab.look; rw [k5]
   rw [this, k2 _ (fun e => fSd_ne_fN _ _ e.symm)]
   exact (h.2 hb').noN d
  rcases hc with ⟨_, _, rfl⟩ | ⟨_, _, rfl⟩
  ·exact ⟨key.1, fun hh => key.2 (or_ne hh).2⟩
  ·exact ⟨key.1, fun hh => key.2 (or_ne hh).2⟩
theorem mayS_zero {s : Sto} {x : Bl} (h : ¬ mayS s x ≠ 0) : s.brk = false := by
 unfold mayS at h
 cases hb : s.brk with
 | false => rfl
 | true => rw [hb] at h; simp at h
theorem LS.put {x : Bl} {i : Int} {b : List UInt8} {s t : Sto} {e : Nat} {th mb : Dg → Prop} (h : LS s th mb) (hR : PutS x i b s e t) : LS t th mb := by
 unfold PutS at hR
 split at hR
 ·rw [hR.2]; exact h
 rename_i hm
 have hb' := mayS_zero hm
 split at hR
 ·rw [hR.2]; exact h
 split at hR
 ·rw [hR.2]; exact h
 ·obtain ⟨B, ⟨e1, A1, h1, hc1⟩, rfl⟩ := hR
  have hq := h.2 hb'
  obtain ⟨g1, k1, k2, _⟩ := h.1.write (fun f hf => hq.free h.1 hf) h1
  have hBA : B = A1 := by rcases hc1 with ⟨_, _, rfl⟩ | ⟨_, _, rfl⟩ <;> rfl
  subst hBA
  refine ⟨g1, fun _ => ⟨fun st hst d => ?_, fun d => ?_⟩⟩
  ·simp only at hst ⊢
   unfold Ab.look
   rw [k1]
   exact hq.same st (by rw [k2] at hst; exact hst) d
  ·simp only
   unfold Ab.look
   rw [k1]
   exact hq.noN d
theorem LS.sync {x : Bl} {s t : Sto} {e : Nat} {th mb : Dg → Prop} (h : LS s th mb) (hR : SyncS x s e t) : LS t th mb := by
 unfold SyncS at hR
 split at hR
 ·rw [hR.2]; exact h
 rename_i hm
 have hb' := mayS_zero hm
 obtain ⟨B, ⟨e1, A1, h1, hc1⟩, rfl⟩ := hR
 have hq := h.2 hb'
 obtain ⟨g1, k1, k2, _⟩ := h.1.sync h1
 have hBA : B = A1 := by rcases hc1 with ⟨_, _, rfl⟩ | ⟨_, _, rfl⟩ <;> rfl
 subst hBA
 refine ⟨g1, fun _ => ⟨fun st hst d => ?_, fun d => ?_⟩⟩
 ·simp only at hst ⊢
  unfold Ab.look
  rw [k1]
  exact hq.same st (by rw [k2] at hst; exact hst) d
 ·simp only
  unfold Ab.look
  rw [k1]
  exact hq.noN d
theorem LS.abort {x : Bl} {s t : Sto} {e : Nat} {th mb : Dg → Prop} (h : LS s th mb) (hR : AbortS x s e t) : LS t th mb := by
 unfold AbortS at hR
 split at hR
 ·rw [hR.2]; exact h
 rename_i hm
 have hb' := mayS_zero hm
 obtain ⟨s1, ⟨B, ⟨e1, A1, h1, hc1⟩, rfl⟩, rfl⟩ := hR
 have hq := h.2 hb'
 obtain ⟨g1, k1, k2⟩ := h.1.remove (th' := th) (mb' := mb) (fun y e => absurd e (fSd_ne_fBd _ _)) (fun d hd => ⟨hd, fun e => fSd_ne_fI _ _ e.symm⟩) (fun d hd => hd) h1
 have hBA : B = A1 ∧ e = e1 := by
  rcases hc1 with ⟨_, h2, h3⟩ | ⟨h0, h2, h3⟩
  ·exact ⟨h3, h2⟩
  ·exact ⟨h3, by rw [h2, h0]⟩
 obtain ⟨rfl, rfl⟩ := hBA
 have hQ : e = 0 → LQ B := fun h0 => by
  obtain ⟨j1, j2, _⟩ := k2 h0
  have hl : ∀ nm, B.look nm = if nm = fS x then none else s.A.look nm := fun nm => by
   unfold Ab.look; rw [j1]; exact look_del _ _ _
  have hlB : ∀ d, B.look (fBd d) = s.A.look (fBd d) := fun d => by rw [hl, if_neg (fun e => fSd_ne_fBd _ _ e.symm)]
  have hlI : ∀ d, B.look (fI d) = s.A.look (fI d) := fun d => by rw [hl, if_neg (fun e => fSd_ne_fI _ _ e.symm)]
  refine ⟨fun st hst d => ?_, fun d => by rw [hl, if_neg (fun e => fSd_ne_fN _ _ e.symm)]; exact hq.noN d⟩
  rw [j2] at hst
  rcases List.mem_append.1 hst with h5 | h5
  ·rw [hlB, hlI]; exact hq.same st h5 d
  ·rw [List.mem_singleton.1 h5, ← j1]; exact ⟨rfl, rfl⟩
 split
 ·exact ⟨g1, fun hh => hQ (or_ne hh).2⟩
 ·exact ⟨g1, fun hh => hQ (or_ne hh).2⟩
theorem whole_nil (x : Bl) : wholeB x [] = false := by
 cases h : wholeB x [] with
 | false => rfl
 | true =>
  have h1 := (whole_size h).1
  unfold wholeB at h
  obtain ⟨h2, _⟩ := blob_ok (of_decide_eq_true h)
  simp only [rightB, decide_eq_true_eq] at h2
  simp at h1
  omega
theorem LS.install {x : Bl} {s t : Sto} {e : Nat} {th mb : Dg → Prop} (h : LS s th mb) (hR : InstallS x s e t) : LS t th mb := by
 unfold InstallS at hR
 split at hR
 ·rw [hR.2]; exact h
 rename_i hm
 have hb' := mayS_zero hm
 split at hR
 ·obtain ⟨e1, hab, _⟩ := hR
  exact h.abort hab
 rename_i hw
 have hw' : wholeB x ((bytesF s.A (fS x)).getD []) = true := by simpa using hw
 obtain ⟨s1, ⟨B, hruns, rfl⟩, rfl⟩ := hR
 have hq := h.2 hb'
 have hnow : ∀ f, s.A.look (fS x) = some f → sumL (s.A.now f) = x.d := fun f hf => by
  unfold bytesF at hw'
  rw [hf] at hw'
  simp only at hw'
  split at hw'
  ·rw [show (none : Option (List UInt8)).getD [] = [] from rfl, whole_nil] at hw'; cases hw'
  ·exact (whole_size hw').2
 have key : LH B th mb ∧ (e = 0 → LQ B) := by
  obtain ⟨e1, A1, h1, hc1⟩ := hruns
  obtain ⟨g1, k1, k2, k3, k4⟩ := h.1.sync h1
  rcases hc1 with ⟨hne, rfl, rfl⟩ | ⟨h0, e2, A2, h2, hc2⟩
  ·exact ⟨g1, fun h => absurd h hne⟩
  have hl1 : ∀ nm, A1.look nm = s.A.look nm := fun nm => by unfold Ab.look; rw [k1]
  obtain ⟨g2, k5⟩ := g1.rename (mb' := mb) (fun d => fSd_ne_fBd _ _) (fun d => fSd_ne_fI _ _) (fun d hd => hd) (fun d f hd hf => by
   rw [hl1] at hf
   refine ⟨k4 h0 f hf, ?_⟩
   rw [(k3 _ f hf).1, hnow f hf]
   exact fBd_inj hd) (fun d f hd _ => absurd hd (fBd_ne_fI _ _)) h2
  rcases hc2 with ⟨hne, rfl, rfl⟩ | ⟨h0', e3, A3, h3, hc3⟩
  ·exact ⟨g2, fun h => absurd h hne⟩
  obtain ⟨_, _, f, _, k6⟩ := k5 h0'
  obtain ⟨g3, k7⟩ := g2.syncNames h3
  rcases hc3 with ⟨hne, rfl, rfl⟩ | ⟨h0'', rfl, rfl⟩
  ·exact ⟨g3, fun h => absurd h hne⟩
  obtain ⟨k8, k9, _⟩ := k7 h0''
  refine ⟨g3, fun _ => LQ.one (by rw [k8, k9]) fun d => ?_⟩
  have : B.look (fN d) = A2.look (fN d) := by unfold Ab.look; rw [k9]
  rw [this, k6, if_neg (fun e => fBd_ne_fN _ _ e.symm), if_neg (fun e => fSd_ne_fN _ _ e.symm), hl1]
  exact hq.noN d
 split
 ·exact ⟨key.1, fun hh => key.2 (or_ne hh).2⟩
 ·exact ⟨key.1, fun hh => key.2 (or_ne hh).2⟩
theorem LS.commit {l : List Bl} {s t : Sto} {e : Nat} {th mb : Dg → Prop} (h : LS s th mb) (hR : CommitS l s e t) :
  (e = 0 → LS t (fun d => th d ∨ d = nameB l) mb) ∧ (e ≠ 0 → ∀ d0, (imageB l = 0 → d0 = nameB l) → LS t th (fun d => mb d ∨ d = d0)) := by
 have hw : ∀ d0, LS s th (fun d => mb d ∨ d = d0) := fun d0 => ⟨h.1.weak (fun d hd => hd) (fun d hd => hd.imp id .inl), h.2⟩
 unfold CommitS at hR
 split at hR
 ·rw [hR.2]; exact ⟨fun h0 => (by rw [hR.1] at h0; cases h0), fun _ d0 _ => hw d0⟩
 rename_i hb
 have hb' : s.brk = false := by simpa using hb
 have hq := h.2 hb'
 split at hR
 ·rename_i hi
  rw [hR.2]; exact ⟨fun h0 => absurd (hR.1.symm.trans h0) hi, fun _ d0 _ => hw d0⟩
 rename_i hi
 have hi' : imageB l = 0 := by omega
 split at hR
 ·rename_i hhas
  rw [hR.2]
  refine ⟨fun _ => ⟨⟨h.1.lg, fun d hd st hst => ?_, fun st hst d hd => ?_⟩, h.2⟩, fun h0 => absurd hR.1 h0⟩
  ·rcases hd with hd | rfl
   ·exact h.1.ths d hd st hst
   ·rw [(hq.same st hst _).2]; exact hhas
  ·rcases h.1.im st hst d hd with h1 | h1
   ·exact .inl (.inl h1)
   ·exact .inr h1
 split at hR
 ·rw [hR.2]; exact ⟨fun h0 => (by rw [hR.1] at h0; cases h0), fun _ d0 _ => hw d0⟩
 rename_i hall
 have hall' : ∀ y ∈ l, (s.A.look (fBd y.d)).isSome = true := fun y hy => by
  cases hx : s.A.look (fBd y.d) with
  | some c => rfl
  | none => exact absurd (List.any_eq_true.2 ⟨y, hy, by unfold hasF; rw [fB_eq, hx]; rfl⟩) hall
 have hnN : hasF s.A (fileN kN (nameB l)) = false := by unfold hasF; rw [show s.A.look (fileN kN (nameB l)) = none from hq.noN _]; rfl
 rw [hnN, if_neg (by simp)] at hR
 obtain ⟨B, hruns, rfl⟩ := hR
 simp only [List.nil_append, moveS, List.cons_append] at hruns
 rw [show fileN kN (nameB l) = fN (nameB l) from rfl, show fileN kI (nameB l) = fI (nameB l) from rfl] at hruns
 have hmb : ∀ {A : Ab}, LH A th mb → LH A th (fun d => mb d ∨ d = nameB l) := fun hA => hA.weak (fun d hd => hd) (fun d hd => hd.imp id .inl)
 have key : LH B th (fun d => mb d ∨ d = nameB l) ∧ (e = 0 → LQ B ∧ LH B (fun d => th d ∨ d = nameB l) mb) := by
  obtain ⟨e1, A1, h1, hc1⟩ := hruns
  obtain ⟨g1, k1⟩ := h.1.create (fun d e => fBd_ne_fN _ _ e.symm) (fun d e => fI_ne_fN _ _ e.symm) h1
  rcases hc1 with ⟨hne, rfl, rfl⟩ | ⟨h0, e2, A2, h2, hc2⟩
  ·exact ⟨hmb g1, fun h => absurd h hne⟩
  obtain ⟨_, k2, k3, k4, k5⟩ := k1 h0
  obtain ⟨f, hf⟩ := Option.isSome_iff_exists.1 k3
  obtain ⟨k6, k7⟩ := k5 f hf
  obtain ⟨g2, j1, j2, j3, j4⟩ := g1.write (fun f' hf' st hst d => by
   rw [hf] at hf'; injection hf' with hf'; subst hf'
   exact ⟨k7 st hst _ (fBd_ne_fN _ _), k7 st hst _ (fI_ne_fN _ _)⟩) h2
  rcases hc2 with ⟨hne, rfl, rfl⟩ | ⟨h0', e3, A3, h3, hc3⟩
  ·exact ⟨hmb g2, fun h => absurd h hne⟩
  have hf2 : A2.look (fN (nameB l)) = some f := by unfold Ab.look; rw [j1]; exact hf
  have hnow2 : A2.now f = encB l := by
   obtain ⟨f', hf', hn⟩ := j3 h0'
   rw [hf] at hf'; injection hf' with hf'; subst hf'
   rw [hn, k6]
   exact wroteL_add [] _
  obtain ⟨g3, m1, m2, m3, m4⟩ := g2.sync h3
  rcases hc3 with ⟨hne, rfl, rfl⟩ | ⟨h0'', e4, A4, h4, hc4⟩
  ·exact ⟨hmb g3, fun h => absurd h hne⟩
  have hl3 : ∀ nm, A3.look nm = A1.look nm := fun nm => by unfold Ab.look; rw [m1, j1]
  have hf3 : A3.look (fN (nameB l)) = some f := by rw [hl3]; exact hf
  obtain ⟨g4, n1⟩ := g3.rename (mb' := fun d => mb d ∨ d = nameB l) (fun d e => fBd_ne_fN _ _ e.symm) (fun d e => fI_ne_fN _ _ e.symm) (fun d hd => .inl hd) (fun d f' hd _ => absurd hd.symm (fBd_ne_fI _ _)) (fun d f' hd hf' => by
   rw [hf3] at hf'; injection hf' with hf'; subst hf'
   have hd' : nameB l = d := fI_inj hd
   refine ⟨⟨m4 h0'' f hf2, l, ?_, hd', fun y hy => ?_⟩, .inr hd'.symm⟩
   ·rw [(m3 _ f hf2).1, hnow2]; exact decB_enc hi'
   ·rw [hl3, k2 _ (fBd_ne_fN _ _)]; exact hall' y hy) h4
  rcases hc4 with ⟨hne, rfl, rfl⟩ | ⟨h0''', e5, A5, h5, hc5⟩
  ·exact ⟨g4, fun h => absurd h hne⟩
  obtain ⟨_, _, f', hf', n2⟩ := n1 h0'''
  obtain ⟨g5, n3⟩ := g4.syncNames h5
  rcases hc5 with ⟨hne, rfl, rfl⟩ | ⟨h5', rfl, rfl⟩
  ·exact ⟨g5, fun h => absurd h hne⟩
  obtain ⟨n4, n5, _⟩ := n3 h5'
  have hlB : ∀ nm, B.look nm = A4.look nm := fun nm => by unfold Ab.look; rw [n5]
  refine ⟨g5, fun _ => ⟨LQ.one (by rw [n4, n5]) fun d => ?_, g5.lg, fun d hd st hst => ?_, fun st hst d hd => ?_⟩⟩
  ·rw [hlB, n2, if_neg (fun e => fI_ne_fN _ _ e.symm)]
   by_cases hdn : fN d = fN (nameB l)
   ·rw [if_pos hdn]
   ·rw [if_neg hdn, hl3, k2 _ hdn]; exact hq.noN d
  ·rcases hd with hd | rfl
   ·exact g5.ths d hd st hst
   ·rw [n4, List.mem_singleton] at hst
    rw [hst]
    show (A4.look (fI (nameB l))).isSome = true
    rw [n2, if_pos rfl]; rfl
  ·rcases g5.im st hst d hd with h1 | h1 | h1
   ·exact .inl (.inl h1)
   ·exact .inr h1
   ·exact .inl (.inr h1)
 refine ⟨fun h0 => ⟨(key.2 h0).2, fun _ => (key.2 h0).1⟩, fun h0 d0 hd0 => ?_⟩
 rw [hd0 hi']
 exact ⟨key.1, fun hh => absurd (or_ne hh).2 h0⟩
/-! ## Drop -/
theorem mem_imagesA (A : Ab) (d : Dg) : d ∈ imagesF A ↔ (A.look (fI d)).isSome = true := by
 unfold imagesF
 rw [List.mem_filterMap]
 have hmem : ∀ nm, nm ∈ namesF A ↔ (A.look nm).isSome = true := fun nm => by
  rw [(namesF_perm A).mem_iff]
  unfold Ab.look Ab.lookIn
  rw [Option.isSome_map, List.find?_isSome, List.mem_map]
  constructor
  ·rintro ⟨x, hx, rfl⟩; exact ⟨x, hx, by simp⟩
  ·rintro ⟨x, hx, he⟩; exact ⟨x, hx, by simpa using he⟩
 constructor
 ·rintro ⟨nm, hn, hd⟩
  rw [hashN_iff.1 hd] at hn
  exact (hmem _).1 hn
 ·intro hd
  exact ⟨fI d, (hmem _).2 hd, hashN_file _ _⟩
theorem kept_of {A : Ab} (hon : A.off = false) {d : Dg} {f : Nat} {l : List Bl} (hf : A.look (fI d) = some f) (hl : decB (A.now f) = some l) : ∀ z ∈ l, z.d ∈ keptF A := fun z hz => by
 unfold keptF
 rw [List.mem_flatMap]
 refine ⟨d, (mem_imagesA A d).2 (by rw [hf]; rfl), ?_⟩
 unfold imageF bytesF
 rw [show A.look (fileN kI d) = some f from hf]
 simp only [hon]
 rw [show ((if (false : Bool) = true then (none : Option (List UInt8)) else some (A.now f)).bind decB) = decB (A.now f) from rfl, hl]
 exact List.mem_map.2 ⟨z, hz, rfl⟩
theorem LH.sweep {th mb : Dg → Prop} (kept : List Dg) : ∀ (l : List Bl) {A B : Ab} {e : Nat}, LH A th mb → (∀ d f m, A.look (fI d) = some f → decB (A.now f) = some m → ∀ z ∈ m, z.d ∈ kept) → SweepL kept l A e B →
  LH B th mb ∧ (∀ d, B.look (fI d) = A.look (fI d) ∧ B.look (fN d) = A.look (fN d))
 | [], A, B, e, h, hk, hs => by
  obtain ⟨_, rfl⟩ := hs
  exact ⟨h, fun d => ⟨rfl, rfl⟩⟩
 | y :: l, A, B, e, h, hk, hs => by
  unfold SweepL at hs
  split at hs
  ·exact LH.sweep kept l h hk hs
  ·rename_i hy
   have hyk : y.d ∉ kept := fun hh => hy (.inl hh)
   obtain ⟨e1, A1, h1, hc⟩ := hs
   obtain ⟨g1, k1, k2⟩ := h.remove (th' := th) (mb' := mb) (fun y' e d f m hf hm z hz hzd => hyk (by
    rw [fBd_inj (show fBd y.d = fBd y'.d from e), ← hzd]
    exact hk d f m hf hm z hz)) (fun d hd => ⟨hd, fun e => fBd_ne_fI _ _ e.symm⟩) (fun d hd => hd) h1
   have hl1 : ∀ nm, (∀ d, nm ≠ fBd d) → A1.look nm = A.look nm := fun nm hn => by
    by_cases h0 : e1 = 0
    ·obtain ⟨j1, _⟩ := k2 h0
     unfold Ab.look; rw [j1, look_del, if_neg (hn _)]
    ·unfold Ab.look; rw [(k1 h0).names]
   have hfs : A1.fs = A.fs := by
    by_cases h0 : e1 = 0
    ·exact (k2 h0).2.2.1
    ·exact (k1 h0).fs
   have hI := fun d => hl1 (fI d) (fun d' e => fBd_ne_fI _ _ e.symm)
   have hN := fun d => hl1 (fN d) (fun d' e => fBd_ne_fN _ _ e.symm)
   rcases hc with ⟨_, _, rfl⟩ | ⟨_, hs⟩
   ·exact ⟨g1, fun d => ⟨hI d, hN d⟩⟩
   ·obtain ⟨g2, j1⟩ := LH.sweep kept l g1 (fun d f m hf hm => hk d f m (by rw [← hI]; exact hf) (by rw [← now_file (file_eq hfs f)]; exact hm)) hs
    exact ⟨g2, fun d => ⟨(j1 d).1.trans (hI d), (j1 d).2.trans (hN d)⟩⟩
theorem LS.drop {d : Dg} {s t : Sto} {e : Nat} {th mb : Dg → Prop} (h : LS s th mb) (hR : DropS d s e t) :
  (e = 0 → LS t (fun x => th x ∧ x ≠ d) mb) ∧ (e ≠ 0 → LS t (fun x => th x ∧ x ≠ d) (fun x => mb x ∨ x = d)) := by
 have hsplit : ∀ x, th x ∨ mb x → (th x ∧ x ≠ d) ∨ (mb x ∨ x = d) := fun x hx => by
  by_cases hxd : x = d
  ·exact .inr (.inr hxd)
  ·rcases hx with hx | hx
   ·exact .inl ⟨hx, hxd⟩
   ·exact .inr (.inl hx)
 have hw : LS s (fun x => th x ∧ x ≠ d) (fun x => mb x ∨ x = d) := ⟨h.1.weak (fun x hx => hx.1) hsplit, h.2⟩
 unfold DropS at hR
 split at hR
 ·rw [hR.2]; exact ⟨fun h0 => (by rw [hR.1] at h0; cases h0), fun _ => hw⟩
 rename_i hb
 have hb' : s.brk = false := by simpa using hb
 have hq := h.2 hb'
 split at hR
 ·rw [hR.2]; exact ⟨fun h0 => (by rw [hR.1] at h0; cases h0), fun _ => hw⟩
 rename_i x hx
 obtain ⟨B, hruns, rfl⟩ := hR
 have key : LH B (fun x => th x ∧ x ≠ d) (fun x => mb x ∨ x = d) ∧ (e = 0 → LQ B ∧ B.states = [B.names] ∧ B.look (fI d) = none) := by
  obtain ⟨e1, A1, h1, hc1⟩ := hruns
  obtain ⟨g1, k1, k2⟩ := h.1.remove (th' := fun x => th x ∧ x ≠ d) (mb' := fun x => mb x ∨ x = d) (fun y e => absurd e.symm (fBd_ne_fI _ _)) (fun x hx => ⟨hx.1, fun e => hx.2 (fI_inj e)⟩) hsplit h1
  rcases hc1 with ⟨hne, rfl, rfl⟩ | ⟨h0, e2, A2, ⟨m, hp, h2⟩, hc2⟩
  ·exact ⟨g1, fun h => absurd h hne⟩
  obtain ⟨j1, j2, j3, j4, j5⟩ := k2 h0
  obtain ⟨g2, j6⟩ := LH.sweep (keptF A1) m g1 (fun d' f m' hf hm => kept_of j5 hf hm) h2
  rcases hc2 with ⟨hne, rfl, rfl⟩ | ⟨h0', e3, A3, h3, hc3⟩
  ·exact ⟨g2, fun h => absurd h hne⟩
  obtain ⟨g3, k3⟩ := g2.syncNames h3
  rcases hc3 with ⟨hne, rfl, rfl⟩ | ⟨h0'', rfl, rfl⟩
  ·exact ⟨g3, fun h => absurd h hne⟩
  obtain ⟨n4, n5, _⟩ := k3 h0''
  have hlB : ∀ nm, B.look nm = A2.look nm := fun nm => by unfold Ab.look; rw [n5]
  have hl1 : ∀ nm, A1.look nm = if nm = fI d then none else s.A.look nm := fun nm => by unfold Ab.look; rw [j1]; exact look_del _ _ _
  refine ⟨g3, fun _ => ⟨LQ.one (by rw [n4, n5]) fun d' => ?_, by rw [n4, n5], ?_⟩⟩
  ·rw [hlB, (j6 d').2, hl1, if_neg (fun e => fI_ne_fN _ _ e.symm)]; exact hq.noN d'
  ·rw [hlB, (j6 d).1, hl1, if_pos rfl]
 refine ⟨fun h0 => ?_, fun h0 => ⟨key.1, fun hh => absurd (or_ne hh).2 h0⟩⟩
 obtain ⟨k1, k2, k3⟩ := key.2 h0
 refine ⟨⟨key.1.lg, key.1.ths, fun st hst x hx => ?_⟩, fun _ => k1⟩
 rcases key.1.im st hst x hx with h5 | h5 | h5
 ·exact .inl h5
 ·exact .inr h5
 ·exfalso
  simp only at hst
  rw [k2, List.mem_singleton] at hst
  rw [hst, h5] at hx
  have : (B.look (fI d)).isSome = true := hx
  rw [k3] at this
  cases this
end Go.Proofs.YtpecmnaikjbanaaGreatDoor
/- blobs, plain: a crash; opened again. -/
namespace Go.Proofs.YtpecmnaikjbanaaGreatDoor
open Go Go.SL
theorem lookIn_memF {l : Nms} {nm : ByteArray} {f : Nat} (h : Ab.lookIn l nm = some f) : (nm, f) ∈ l := by
 unfold Ab.lookIn at h
 cases hx : l.find? (fun x => decide (x.1 = nm)) with
 | none => rw [hx] at h; cases h
 | some x =>
  rw [hx] at h
  injection h with h
  have h1 := List.mem_of_find?_eq_some hx
  have h2 : x.1 = nm := by simpa using List.find?_some hx
  rw [← h2, ← h]
  exact h1
theorem crash_pick {A : Ab} (h : A.states ≠ []) (last : Int) (stay : List UInt8) (torn cut : Int) : (A.crash last stay torn cut).names ∈ A.states := by
 simp only [Ab.crash]
 have hl : 0 < A.states.length := List.length_pos_iff.2 h
 have : (max 0 (min last ((A.states.length : Int) - 1))).toNat < A.states.length := by omega
 rw [List.getD_eq_getElem?_getD, List.getElem?_eq_getElem this]
 exact List.getElem_mem _
theorem crash_ids (A : Ab) (last : Int) (stay : List UInt8) (torn cut : Int) : (A.crash last stay torn cut).fs.map (·.1) = A.fs.map (·.1) := by
 simp only [Ab.crash]
 rw [ids_map _ _ (fun x => by split <;> rfl), lasts_id]
theorem LH.crash {A : Ab} {th mb : Dg → Prop} (h : LH A th mb) (last : Int) (stay : List UInt8) (torn cut : Int) :
  LH (A.crash last stay torn cut) th mb ∧ (∀ nm f, Ab.lookIn (A.crash last stay torn cut).names nm = some f → Cl A f → (A.crash last stay torn cut).file f = A.file f) := by
 have hst := crash_pick (List.ne_nil_of_mem h.lg.mem) last stay torn cut
 have hids := crash_ids A last stay torn cut
 have hcf := fun f => crash_file (A := A) last stay torn cut (f := f)
 have hs : (A.crash last stay torn cut).states = [(A.crash last stay torn cut).names] := rfl
 have hw : (A.crash last stay torn cut).writes = [] := rfl
 generalize A.crash last stay torn cut = B at hst hids hcf hs hw
 have hre : ∀ nm f, Ab.lookIn B.names nm = some f → f ∈ Ab.reach (A.states ++ [B.names]) := fun nm f hf => by
  unfold Ab.reach
  rw [List.mem_flatMap]
  exact ⟨B.names, by simp, List.mem_map.2 ⟨_, lookIn_memF hf, rfl⟩⟩
 have hk := h.lg.known _ hst
 have hfile : ∀ nm f, Ab.lookIn B.names nm = some f → Cl A f → B.file f = A.file f := fun nm f hf hc => (hcf f (hk nm f hf) (hre nm f hf)).2 hc
 refine ⟨⟨⟨fun st hst2 => ?_, fun st hst2 => ?_, by rw [hs]; simp, fun st hst2 => ?_, by rw [hw]; simp⟩, fun d hd st hst2 => ?_, fun st hst2 => ?_⟩, hfile⟩
 ·rw [hs, List.mem_singleton] at hst2
  rw [hst2]
  have hCl : ∀ nm f, Ab.lookIn B.names nm = some f → Cl B f := fun nm f hf => ⟨by rw [(hcf f (hk nm f hf) (hre nm f hf)).1], by rw [hw]; simp⟩
  have hg := h.lg.good _ hst
  refine ⟨fun d f hf => ?_, fun d f hf => ?_⟩
  ·obtain ⟨h1, h2⟩ := hg.b d f hf
   exact ⟨hCl _ f hf, by rw [now_file (hfile _ f hf h1)]; exact h2⟩
  ·obtain ⟨h1, h2⟩ := hg.i d f hf
   exact ⟨hCl _ f hf, by rw [now_file (hfile _ f hf h1)]; exact h2⟩
 ·rw [hs, List.mem_singleton] at hst2
  rw [hst2]; exact h.lg.inj _ hst
 ·rw [hs, List.mem_singleton] at hst2
  rw [hst2, hids]; exact hk
 ·rw [hs, List.mem_singleton] at hst2
  rw [hst2]; exact h.ths d hd _ hst
 ·rw [hs, List.mem_singleton] at hst2
  rw [hst2]; exact h.im _ hst
/-! ## opened -/
theorem remove_on {A B : Ab} {e : Nat} (hp : A.plan = []) (ho : A.off = false) {nm : ByteArray} {f : Nat} (hn : isName nm = true) (hf : A.look nm = some f) (h : stRemove nm A e B) : e = 0 ∧ B = A.chg (Ab.delN A.names nm) := by
 unfold stRemove Ab.remove at h
 have h1 : A.meet true = (0, A) := by simp [Ab.meet, hp, ho]
 have h2 : A.find nm true = (0, some f, A) := by simp [Ab.find, h1, hf]
 rw [hn, h2] at h
 injection h with h3 h4
 exact ⟨h3, h4⟩
theorem scrubN {th mb : Dg → Prop} : ∀ (l : List ByteArray) {A B : Ab} {e : Nat}, LH A th mb → A.plan = [] → A.off = false → (A.names.map (·.1)).Nodup → l.Nodup → (∀ nm ∈ l, (A.look nm).isSome = true) → Scrub kN (fun _ _ => false) l A e B →
  e = 0 ∧ LH B th mb ∧ B.plan = [] ∧ B.off = false ∧ (B.names.map (·.1)).Nodup ∧ (∀ nm, (∀ d, nm ≠ fN d) → B.look nm = A.look nm) ∧ (∀ d, B.look (fN d) = if fN d ∈ l then none else A.look (fN d)) ∧ B.fs = A.fs ∧ B.writes = A.writes ∧ B.room = A.room ∧
   B.names.length ≤ A.names.length ∧ ((B.names.length < A.names.length) ∨ B = A)
 | [], A, B, e, h, hp, ho, hn, hl, hm, hs => by
  obtain ⟨rfl, rfl⟩ := hs
  exact ⟨rfl, h, hp, ho, hn, fun _ _ => rfl, fun d => by simp, rfl, rfl, rfl, Nat.le_refl _, .inr rfl⟩
 | nm :: l, A, B, e, h, hp, ho, hn, hl, hm, hs => by
  rw [List.nodup_cons] at hl
  have hm2 : ∀ k ∈ l, (A.look k).isSome = true := fun k hk => hm k (List.mem_cons_of_mem _ hk)
  unfold Scrub at hs
  cases hh : hashN kN nm with
  | none =>
   rw [hh] at hs
   obtain ⟨r1, r2, r3, r4, r5, r6, r7, r8⟩ := scrubN l h hp ho hn hl.2 hm2 hs
   have hne : ∀ d, fN d ≠ nm := fun d e => by rw [← e] at hh; unfold fN at hh; rw [hashN_file] at hh; cases hh
   refine ⟨r1, r2, r3, r4, r5, r6, fun d => ?_, r8⟩
   rw [r7]
   simp only [List.mem_cons, hne d, false_or]
  | some d0 =>
   have hnm : nm = fN d0 := hashN_iff.1 hh
   rw [hh] at hs
   simp only at hs
   rw [if_neg (by simp)] at hs
   obtain ⟨e1, A1, h1, hc⟩ := hs
   obtain ⟨f, hf⟩ := Option.isSome_iff_exists.1 (hm nm (List.mem_cons_self ..))
   obtain ⟨rfl, rfl⟩ := remove_on hp ho (by rw [hnm]; exact isName_N d0) hf h1
   obtain ⟨g1, -, -⟩ := h.remove (th' := th) (mb' := mb) (fun y e => absurd (e.symm.trans hnm) (fBd_ne_fN _ _)) (fun d hd => ⟨hd, fun e => fI_ne_fN _ _ (e.trans hnm)⟩) (fun d hd => hd) h1
   rcases hc with ⟨hne, _⟩ | ⟨_, hs⟩
   ·exact absurd rfl hne
   have hl1 : ∀ k, (A.chg (Ab.delN A.names nm)).look k = if k = nm then none else A.look k := fun k => look_del A.names nm k
   have hlt : (Ab.delN A.names nm).length < A.names.length := by
    unfold Ab.delN
    rw [List.length_filter_lt_length_iff_exists]
    exact ⟨(nm, f), lookIn_memF hf, by simp⟩
   obtain ⟨r1, r2, r3, r4, r5, r6, r7, r8, r9, r10, r11, r12⟩ := scrubN l g1 hp ho ((List.filter_sublist.map _).nodup hn) hl.2 (fun k hk => by rw [hl1, if_neg (fun (e : k = nm) => hl.1 (by rw [← e]; exact hk))]; exact hm2 k hk) hs
   have r11' : B.names.length ≤ (Ab.delN A.names nm).length := r11
   refine ⟨r1, r2, r3, r4, r5, fun k hk => ?_, fun d => ?_, r8, r9, r10, by omega, .inl (by omega)⟩
   ·rw [r6 k hk, hl1, if_neg (fun e => hk d0 (e.trans hnm))]
   ·rw [r7, hl1]
    by_cases hd : fN d = nm
    ·rw [if_pos hd]; simp [hd]
    ·rw [if_neg hd]
     simp only [List.mem_cons, hd, false_or]
theorem mem_namesA (A : Ab) (nm : ByteArray) : nm ∈ namesF A ↔ (A.look nm).isSome = true := by
 rw [(namesF_perm A).mem_iff]
 unfold Ab.look Ab.lookIn
 rw [Option.isSome_map, List.find?_isSome, List.mem_map]
 constructor
 ·rintro ⟨x, hx, rfl⟩; exact ⟨x, hx, by simp⟩
 ·rintro ⟨x, hx, he⟩; exact ⟨x, hx, by simpa using he⟩
theorem Good.wholeF {A : Ab} (h : Good A A.names) (ho : A.off = false) {d : Dg} (hd : (A.look (fBd d)).isSome = true) : Proofs.YtpecmnaikjbanaaGreatDoor.wholeF A d = true := by
 obtain ⟨f, hf⟩ := Option.isSome_iff_exists.1 hd
 unfold Proofs.YtpecmnaikjbanaaGreatDoor.wholeF bytesF
 rw [show A.look (fileN kB d) = some f from hf]
 simp only [ho]
 exact decide_eq_true (h.b d f hf).2
theorem Good.completeF {A : Ab} (h : Good A A.names) (ho : A.off = false) {d : Dg} (hd : (A.look (fI d)).isSome = true) : Proofs.YtpecmnaikjbanaaGreatDoor.completeF A d = true := by
 obtain ⟨f, hf⟩ := Option.isSome_iff_exists.1 hd
 obtain ⟨_, l, h2, h3, h4⟩ := h.i d f hf
 unfold Proofs.YtpecmnaikjbanaaGreatDoor.completeF imageF bytesF
 rw [show A.look (fileN kI d) = some f from hf]
 simp only [ho]
 rw [show ((if (false : Bool) = true then (none : Option (List UInt8)) else some (A.now f)).bind decB) = decB (A.now f) from rfl, h2]
 simp only [h3, decide_true, Bool.true_and]
 rw [List.all_eq_true]
 exact fun y hy => h.wholeF ho (h4 y hy)
theorem LH.open {A B : Ab} {th mb : Dg → Prop} {e : Nat} (h : LH A th mb) (hp : A.plan = []) (ho : A.off = false) (hs : A.states = [A.names]) (hn : (A.names.map (·.1)).Nodup) (hO : OpenS A e B) :
  e = 0 ∧ LH B th mb ∧ LQ B ∧ B.plan = [] ∧ B.off = false ∧ (B.names.map (·.1)).Nodup ∧ (∀ nm, (∀ d, nm ≠ fN d) → B.look nm = A.look nm) ∧ B.fs = A.fs ∧ B.writes = A.writes ∧ B.room = A.room ∧ B.states.length ≤ 1 + A.names.length := by
 obtain ⟨e1, A3, ⟨e2, A1, h1, c1⟩, hfin⟩ := hO
 obtain ⟨rfl, rfl⟩ := scrub_none _ (fun nm hm d hd => by
  rw [hashN_iff.1 hd] at hm
  exact h.names.1.wholeF ho ((mem_namesA A _).1 hm)) h1
 rcases c1 with ⟨hne, _⟩ | ⟨_, e3, A2, h2, c2⟩
 ·exact absurd rfl hne
 have hnd : (namesF A1).Nodup := (namesF_perm A1).symm.nodup hn
 obtain ⟨rfl, g2, p2, o2, n2, l2, m2, f2, w2, r2, le2, lt2⟩ := scrubN _ h hp ho hn hnd (fun nm hm => (mem_namesA A1 nm).1 hm) h2
 have m2' : ∀ d, A2.look (fN d) = none := fun d => by
  rw [m2]
  split
  ·rfl
  ·rename_i hd
   rw [mem_namesA] at hd
   cases hx : A1.look (fN d) with
   | none => rfl
   | some f => rw [hx] at hd; exact absurd rfl hd
 rcases c2 with ⟨hne, _⟩ | ⟨_, e4, A4, h4, c4⟩
 ·exact absurd rfl hne
 obtain ⟨rfl, rfl⟩ := scrub_none _ (fun nm hm d hd => by
  rw [hashN_iff.1 hd] at hm
  exact g2.names.1.completeF o2 ((mem_namesA A2 _).1 hm)) h4
 rcases c4 with ⟨hne, _⟩ | ⟨_, rfl, rfl⟩
 ·exact absurd rfl hne
 by_cases hlt : A3.names.length < A1.names.length
 ·rw [if_pos ⟨rfl, hlt⟩] at hfin
  obtain ⟨g3, k3⟩ := g2.syncNames hfin
  have hm : A3.meet true = (0, A3) := by simp [Ab.meet, p2, o2]
  unfold stSyncNames Ab.syncNames at hfin
  rw [hm, if_pos rfl] at hfin
  injection hfin with he hB
  subst he
  obtain ⟨k4, k5, k6, k7⟩ := k3 rfl
  have hlB : ∀ nm, B.look nm = A3.look nm := fun nm => by unfold Ab.look; rw [k5]
  refine ⟨rfl, g3, LQ.one (by rw [k4, k5]) (fun d => by rw [hlB]; exact m2' d), by rw [hB]; exact p2, by rw [hB]; exact o2, by rw [k5]; exact n2, fun nm hnm => (hlB nm).trans (l2 nm hnm), by rw [k6]; exact f2, by rw [k7]; exact w2, by rw [hB]; exact r2, by rw [k4]; simp⟩
 ·rw [if_neg (fun hh => hlt hh.2)] at hfin
  obtain ⟨rfl, rfl⟩ := hfin
  rcases lt2 with h5 | h5
  ·exact absurd h5 hlt
  subst h5
  exact ⟨rfl, g2, LQ.one hs m2', p2, o2, n2, l2, f2, w2, r2, by rw [hs]; simp⟩
end Go.Proofs.YtpecmnaikjbanaaGreatDoor
/- blobs, plain: Drop's growth, a round; what lasts behind a Commit; a crash behind it. -/
namespace Go.Proofs.YtpecmnaikjbanaaGreatDoor
open Go Go.SL
theorem LS.new (room : Nat) : LS ⟨Ab.new room, [], false⟩ (fun _ => False) (fun _ => False) := by
 have hl : ∀ nm f, Ab.lookIn ([] : Nms) nm ≠ some f := fun nm f h => by cases h
 refine ⟨⟨⟨fun st hst => ?_, fun st hst => ?_, by simp [Ab.new], fun st hst => ?_, by simp [Ab.new]⟩, fun d h => h.elim, fun st hst d hd => ?_⟩, fun _ => ⟨fun st hst d => ?_, fun d => rfl⟩⟩
 ·rw [show st = [] from by simpa [Ab.new] using hst]
  exact ⟨fun d f h => absurd h (hl _ _), fun d f h => absurd h (hl _ _)⟩
 ·rw [show st = [] from by simpa [Ab.new] using hst]
  exact fun a b f h => absurd h (hl _ _)
 ·rw [show st = [] from by simpa [Ab.new] using hst]
  exact fun nm f h => absurd h (hl _ _)
 ·rw [show st = [] from by simpa [Ab.new] using hst] at hd
  cases hd
 ·rw [show st = [] from by simpa [Ab.new] using hst]
  exact ⟨rfl, rfl⟩
end Go.Proofs.YtpecmnaikjbanaaGreatDoor
/- blobs, part m: Read, Images. -/
namespace Go.Proofs.YtpecmnaikjbanaaGreatDoor
open Go Go.SL
attribute [local irreducible] J K Ctr Ends pts slc mapR mapI sbRow stock arrS loopP CtrY Sha.chunks Sha.chunk Sha.rounds Sha.sched sumL taggedL GI leafL diskA
def readS (A : Ab) (d : Dg) (at_ n : Int) : List UInt8 × Nat := if hasF A (fileN kB d) then A.read (fileN kB d) at_ n else ([], 4)
set_option maxRecDepth 20000 in
theorem ReadS_any (bs bd : Nat) (q : Int) (mb : Nat) (brk : Bool) (A : Ab) (d : Dg) (at_ n : Int) : Ctr Tryz.prog 26 [ptr bs, dV d, .int .i64 at_, .int .i64 n] [pts bs (cl (stC bd q mb brk) 92), diskA bd A]
  (fun r H => ∃ rv, r = .tuple #[rv, .int .i64 ((readS A d at_ n).2 : Int)] ∧ H = [slc 5 1 rv (readS A d at_ n).1.length (bV (readS A d at_ n).1), pts bs (cl (stC bd q mb brk) 92), diskA bd A]) := by
 have hf := file_any kB d (by decide)
 have hhas := Has_any bs bd q mb brk A d
 unfold dV at hf hhas ⊢
 refine Ctr.enter Tryz.func26 (by kernel_rfl) rfl Tryz.ntmps26 rfl rfl ?_
 intro G F R hE
 refine K_regionA rfl ?_
 refine J_box rfl rfl (fun _ _ _ => trivial) ?_
 intro b5
 refine go ?_
 refine J_loadArr (U := tab) (l := dC d) 0 rfl rfl rfl rfl rfl rfl ?_
 ((try refine go ?_); first | refine J_callE rfl rfl rfl rfl (hhas) entA ?_ (fun _ _ _ _ _ => trivial) | refine J_call0E rfl rfl rfl (hhas) entA ?_ (fun _ _ _ _ _ => trivial))
 rintro _ _ ⟨rfl, rfl⟩
 cases hh : hasF A (fileN kB d) with
 | false =>
  have h1 : readS A d at_ n = ([], 4) := by unfold readS; rw [hh]; rfl
  rw [h1] at hE
  refine go ?_
  refine K_ent (slc_lift 5 1 none _) ?_
  (first | refine K_return hE Tryz.func26 rfl _ rfl ⟨_, rfl, rfl⟩ entA | refine K_fallEnd hE Tryz.func26 rfl _ rfl ⟨_, rfl, rfl⟩ entA)
 | true =>
  have h1 : readS A d at_ n = A.read (fileN kB d) at_ n := by unfold readS; rw [hh]; rfl
  rw [h1] at hE
  have hrd := Read_dA bd A (fileN kB d) at_ n
  refine go ?_
  refine K_drawA (fun w => Sat G w ([pts b5 (cl (dC d) 30), pts bs (cl (stC bd q mb brk) 92)])) (.st 0 (.st 1 (.st 2 (.st 3 (.st 4 (.st 6 (.st 7 (.act 5 (.act 8 (.st 9 (.st 10 (.st 11 (.st 12 .nil))))))))))))) rfl (by kernel_rfl) (by kernel_rfl) (by kernel_rfl) (fun w hw => hw.ent entA) ?_
  refine go ?_
  refine J_loadArrS (U := tab) (l := dC d) 0 rfl rfl rfl rfl rfl rfl ?_
  refine go ?_
  (first | refine J_callE rfl rfl rfl rfl (hf) entA ?_ (fun _ _ w hp hw => by obtain ⟨rfl, rfl⟩ := hp; exact hw.ent entA) | refine J_call0E rfl rfl rfl (hf) entA ?_ (fun _ _ w hp hw => by obtain ⟨rfl, rfl⟩ := hp; exact hw.ent entA))
  rintro _ _ ⟨rfl, rfl⟩
  refine go ?_
  (first | refine J_callE rfl rfl rfl rfl (hrd) entA ?_ (fun _ _ w hp hw => by obtain ⟨r, rfl, rfl⟩ := hp; exact hw.ent entA) | refine J_call0E rfl rfl rfl (hrd) entA ?_ (fun _ _ w hp hw => by obtain ⟨r, rfl, rfl⟩ := hp; exact hw.ent entA))
  rintro _ _ ⟨r, rfl, rfl⟩
  refine go ?_
  (first | refine K_return hE Tryz.func26 rfl _ rfl ⟨_, rfl, rfl⟩ entA | refine K_fallEnd hE Tryz.func26 rfl _ rfl ⟨_, rfl, rfl⟩ entA)
set_option maxRecDepth 20000 in
set_option maxHeartbeats 1000000 in
theorem Images_any (bs bd : Nat) (q : Int) (mb : Nat) (brk : Bool) (A : Ab) : Ctr Tryz.prog 27 [ptr bs] [pts bs (cl (stC bd q mb brk) 92), diskA bd A]
  (fun r H => H = [slc 30 32 r (imagesF A).length ((imagesF A).flatMap dC), pts bs (cl (stC bd q mb brk) 92), diskA bd A]) := by
 refine Ctr.enter Tryz.func27 (by kernel_rfl) rfl Tryz.ntmps27 rfl rfl ?_
 intro G F R hE
 refine K_diskA (bd := bd) (A := A) 1 rfl ?_
 intro hdk
 have hn200 := namesF_len hdk
 obtain ⟨l, hl⟩ : ∃ l, l = namesF A := ⟨_, rfl⟩
 have hfin : imagesF A = l.filterMap (hashN kI) := by unfold imagesF; rw [hl]
 have hnm := Names_dB bd A
 rw [← hl] at hnm hn200
 rw [hfin] at hE
 refine go ?_
 ((try refine go ?_); first | refine J_callE rfl rfl rfl rfl (hnm) entA ?_ (fun _ _ _ _ _ => trivial) | refine J_call0E rfl rfl rfl (hnm) entA ?_ (fun _ _ _ _ _ => trivial))
 rintro r _ rfl
 (first | refine J_shape 0 rfl ?_ | refine K_shape 0 rfl ?_)
 rintro ra rc rfl
 refine J_slcVw 0 rfl ?_
 intro hvw
 refine go ?_
 refine K_ent (slc_lift 30 32 none _) ?_
 refine K_loop (fun y : Nat × List Dg × Option Addr × Nat => y.1 ≤ l.length ∧ y.2.1 = (l.take y.1).filterMap (hashN kI)) (fun y => l.length - y.1)
  (fun y => [(0, ptr bs), (3, .slice y.2.2.1 y.2.1.length y.2.2.2), (12, .slice ra l.length rc), (13, .int .i64 (l.length : Int)), (14, .int .i64 (y.1 : Int))])
  (fun y => slc 30 32 (.slice y.2.2.1 y.2.1.length y.2.2.2) y.2.1.length (y.2.1.flatMap dC) :: slc 9 1 (.slice ra l.length rc) l.length (l.map Value.string) :: pts bs (cl (stC bd q mb brk) 92) :: diskA bd A :: F) (0, [], none, 0) ⟨Nat.zero_le _, rfl⟩ rfl (by repeat (first | exact keep_nil | refine keep_cons rfl ?_)) entA ?_
 rintro ⟨i, acc, xa, xc⟩ ⟨hi, hacc⟩ ih
 simp only at hi hacc
 have hal : acc.length ≤ 200 := by
  have h1 := List.length_filterMap_le (hashN kI) (l.take i)
  rw [← hacc, List.length_take] at h1
  omega
 dsimp only
 refine go ?_
 refine K_condP rfl rfl ?_ ?_
 ·intro hlt
  have hi' : i < l.length := by omega
  obtain ⟨nm, hx⟩ : ∃ x, l[i]? = some x := ⟨l[i], by simp⟩
  have hstep : (l.take (i + 1)).filterMap (hashN kI) = acc ++ (match hashN kI nm with | none => [] | some d => [d]) := by
   rw [List.take_add_one, hx, List.filterMap_append, hacc]
   congr 1
   cases hh : hashN kI nm <;> simp [hh]
  have hcell : (l.map Value.string)[i]? = some (.string nm) := by rw [List.getElem?_map, hx]; rfl
  obtain ⟨b, o, cap', hsl⟩ := hvw.some (by intro h; rw [h] at hcell; simp at hcell)
  simp only [Value.slice.injEq] at hsl
  obtain ⟨rfl, _, rfl⟩ := hsl
  refine go ?_
  refine J_at (U := tab) i 1 rfl rfl rfl rfl rfl rfl rfl rfl hi' ?_
  refine J_isLoad ?_
  refine J_loadAt (U := tab) 1 (i * 1) rfl rfl rfl hvw rfl (by rw [Nat.mul_one]; exact hcell) rfl rfl ?_
  refine go ?_
  ((try refine go ?_); first | refine J_callE rfl rfl rfl rfl (hash_any kI nm (by decide)) entA ?_ (fun _ _ _ _ _ => trivial) | refine J_call0E rfl rfl rfl (hash_any kI nm (by decide)) entA ?_ (fun _ _ _ _ _ => trivial))
  rintro _ _ ⟨rfl, rfl⟩
  cases hh : hashN kI nm with
  | none =>
   rw [hh] at hstep
   simp only [List.append_nil] at hstep
   simp only [hashV]
   unfold dV
   refine go ?_
   refine J_alloc (U := tab) rfl rfl rfl (fun _ _ _ => trivial) ?_
   intro b9
   refine go ?_
   refine K_again ih (i + 1, acc, xa, xc) rfl ⟨by simp only; omega, hstep.symm⟩ (by simp only; omega) (by repeat (first | exact keep_nil | refine keep_cons rfl ?_)) entA
  | some d =>
   rw [hh] at hstep
   simp only at hstep
   simp only [hashV]
   unfold dV
   refine go ?_
   refine J_alloc (U := tab) rfl rfl rfl (fun _ _ _ => trivial) ?_
   intro b9
   refine go ?_
   refine J_loadArr (U := tab) (l := dC d) 0 rfl rfl rfl rfl rfl rfl ?_
   refine J_buildSlice1 (U := tab) (cs := dC d) rfl rfl rfl rfl rfl rfl rfl rfl rfl (fun _ _ _ => trivial) ?_
   intro row
   refine go ?_
   refine J_append (U := tab) (mm := 1) (news := dC d) 2 0 rfl rfl rfl rfl rfl rfl rfl rfl rfl rfl rfl rfl (Vw.pts rfl) rfl (by rw [dC_bV]; exact bV_one _) (by omega) (by show (_ + 1) * 32 ≤ _; omega) (fun _ => rfl) (fun _ _ _ => trivial) ?_
   intro v1
   rw [show acc.flatMap dC ++ dC d = (acc ++ [d]).flatMap dC from by simp, show acc.length + 1 = (acc ++ [d]).length from by simp]
   (first | refine J_shape 2 rfl ?_ | refine K_shape 2 rfl ?_)
   rintro va2 vc2 rfl
   refine go ?_
   refine K_again ih (i + 1, acc ++ [d], va2, vc2) rfl ⟨by simp only; omega, hstep.symm⟩ (by simp only; omega) (by repeat (first | exact keep_nil | refine keep_cons rfl ?_)) entA
 ·intro hge
  have hie : i = l.length := by omega
  rw [hie, List.take_length] at hacc
  rw [← hacc] at hE
  clear ih
  refine go ?_
  (first | refine K_return hE Tryz.func27 rfl _ rfl rfl entA | refine K_fallEnd hE Tryz.func27 rfl _ rfl rfl entA)
end Go.Proofs.YtpecmnaikjbanaaGreatDoor
