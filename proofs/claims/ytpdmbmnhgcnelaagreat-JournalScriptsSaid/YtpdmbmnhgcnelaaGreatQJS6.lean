/- Texts of one claim, joined: Fv, Rm, EngM, EngU, EngY, EngX, EngN, EngO, EngP, EngQ, EngR. -/
import Derived.Test.YtpdmbmnhgcnelaaGreatQJS2
import Derived.Test.YtpdmbmnhgcnelaaGreatQJS3
import Derived.Test.YtpdmbmnhgcnelaaGreatQJS5
import Derived.Lib.MakeNoZero
import Derived.RangeFuncRecord
import Derived.RangeFuncIn
import GoSem.Extern.SlicesOverlaps
/- files, part v: the reference's disk, that nothing in it goes wrong: names, find, may. -/
set_option linter.unusedVariables false
set_option linter.unusedSimpArgs false
namespace Go.Proofs.YtpdmbmnhgcnelaaGreat
open Go Go.SL
attribute [local irreducible] J K Ctr Ends pts slc mapR mapI sbRow stock arrS

abbrev Nm := ByteArray × Nat
def ncell (x : Nm) : List Value := [.string x.1, .int .i64 x.2]
theorem ncell_len (x : Nm) : (ncell x).length = 2 := rfl
def wcell (x : Nat × Nat × Value) : List Value := [.int .i64 x.1, .int .i64 x.2.1, x.2.2]
theorem wcell_len (x : Nat × Nat × Value) : (wcell x).length = 3 := rfl
structure RDk where
  room : Int
  now : Value
  sure : Value
  lv : Value
  sts : Value
  wrs : Value
  nxt : Value
  down : Bool
  nowL : List Value
  sureL : List Value
  stsL : List Value
  wl : List (Nat × Nat × Value)
  arrs : Arrs
  nrows : Arrs
def rdL (br : Nat) (D : RDk) : List HP :=
  [pts br (cl [.int .i64 D.room, D.now, D.sure, D.lv, D.sts, D.wrs, D.nxt, .bool D.down] 61), arrS 5 D.arrs, arrS 111 D.nrows,
   slc 40 1 D.now D.nowL.length D.nowL, slc 40 1 D.sure D.sureL.length D.sureL, slc 58 1 D.sts D.stsL.length D.stsL, slc 83 3 D.wrs D.wl.length (D.wl.flatMap wcell)]
def rd (br : Nat) (D : RDk) : HP := Sep (rdL br D)
theorem rd_o (br : Nat) (room : Int) (now sure lv sts wrs nxt : Value) (down : Bool) (nowL sureL stsL : List Value) (wl : List (Nat × Nat × Value)) (arrs nrows : Arrs) (H : List HP) :
    Ent (rd br ⟨room, now, sure, lv, sts, wrs, nxt, down, nowL, sureL, stsL, wl, arrs, nrows⟩ :: H)
      (pts br (cl [.int .i64 room, now, sure, lv, sts, wrs, nxt, .bool down] 61) :: arrS 5 arrs :: arrS 111 nrows ::
        slc 40 1 now nowL.length nowL :: slc 40 1 sure sureL.length sureL :: slc 58 1 sts stsL.length stsL :: slc 83 3 wrs wl.length (wl.flatMap wcell) :: H) := Ent.unsep (rdL br ⟨room, now, sure, lv, sts, wrs, nxt, down, nowL, sureL, stsL, wl, arrs, nrows⟩) H
theorem rd_c (br : Nat) (room : Int) (now sure lv sts wrs nxt : Value) (down : Bool) (nowL sureL stsL : List Value) (wl : List (Nat × Nat × Value)) (arrs nrows : Arrs) (H : List HP) :
    Ent (pts br (cl [.int .i64 room, now, sure, lv, sts, wrs, nxt, .bool down] 61) :: arrS 5 arrs :: arrS 111 nrows ::
        slc 40 1 now nowL.length nowL :: slc 40 1 sure sureL.length sureL :: slc 58 1 sts stsL.length stsL :: slc 83 3 wrs wl.length (wl.flatMap wcell) :: H)
      (rd br ⟨room, now, sure, lv, sts, wrs, nxt, down, nowL, sureL, stsL, wl, arrs, nrows⟩ :: H) := Ent.resep (rdL br ⟨room, now, sure, lv, sts, wrs, nxt, down, nowL, sureL, stsL, wl, arrs, nrows⟩) H
def BOk (M : Arrs) (v : Value) : Prop := ∃ bs, BIn M v bs ∧ bs.length ≤ 1048576
def NOk (M : Arrs) (n k : Nat) (v : Value) : Prop := ∃ l : List Nm, RIn M 2 v l.length (l.flatMap ncell) ∧ (∀ x ∈ l, x.2 < n) ∧ l.length ≤ k
theorem BOk.mono {M M' : Arrs} {v : Value} (h : BOk M v) (hs : ∀ x ∈ M, x ∈ M') : BOk M' v := by obtain ⟨bs, h1, h2⟩ := h; exact ⟨bs, h1.mono hs, h2⟩
theorem NOk.mono {M M' : Arrs} {n k n' k' : Nat} {v : Value} (h : NOk M n k v) (hs : ∀ x ∈ M, x ∈ M') (hn : n ≤ n') (hk : k ≤ k') : NOk M' n' k' v := by
  obtain ⟨l, h1, h2, h3⟩ := h; exact ⟨l, h1.mono hs, fun x hx => Nat.lt_of_lt_of_le (h2 x hx) hn, by omega⟩
structure ROk (D : RDk) (k : Nat) : Prop where
  nl : D.sureL.length = D.nowL.length
  nk : D.nowL.length ≤ k
  now : ∀ v ∈ D.nowL, BOk D.arrs v
  sure : ∀ v ∈ D.sureL, BOk D.arrs v
  l : NOk D.nrows D.nowL.length k D.lv
  sts : ∀ v ∈ D.stsL, NOk D.nrows D.nowL.length k v
  full : D.stsL ≠ []
  sk : D.stsL.length ≤ k + 1
  wr : ∀ x ∈ D.wl, x.1 < D.nowL.length ∧ ∃ bs, BIn D.arrs x.2.2 bs ∧ x.2.1 + bs.length ≤ 1048576
  wk : D.wl.length ≤ k
  nxt : ∃ bs, BIn D.arrs D.nxt bs
  kk : k ≤ 100000

theorem ROk.up {D : RDk} {k k' : Nat} (h : ROk D k) (hk : k ≤ k') (hk' : k' ≤ 100000) : ROk D k' :=
  ⟨h.nl, by have := h.nk; omega, h.now, h.sure, h.l.mono (fun _ h => h) (Nat.le_refl _) hk, fun v hv => (h.sts v hv).mono (fun _ h => h) (Nat.le_refl _) hk, h.full, by have := h.sk; omega, h.wr, by have := h.wk; omega, h.nxt, hk'⟩

theorem ROk.setNext {D : RDk} {k : Nat} (h : ROk D k) {v : Value} {bs : List UInt8} (o : Bool) (hb : BIn D.arrs v bs) : ROk { D with nxt := v, down := o } k :=
  ⟨h.nl, h.nk, h.now, h.sure, h.l, h.sts, h.full, h.sk, h.wr, h.wk, ⟨bs, hb⟩, h.kk⟩
theorem K_slcVw {P : Program} {f : FuncId} {n : Nat} {R : Ending → World → Prop} {G : Glob} {k : List Item} {L : Lst} {H : List HP} {e : TypeId} {sz nn : Nat} {v : Value} {cs : List Value} (i : Nat) (hi : getL H i = some (slc e sz v nn cs))
    (h : Vw (slc e sz v nn cs) v nn cs → K P f n R G k L H) : K P f n R G k L H :=
  K_sat fun ⟨w, hw⟩ => by
    obtain ⟨h1, _, hA⟩ := hw.getA hi
    exact h (Vw.of_slc e sz v nn cs ⟨h1, hA⟩)
set_option maxRecDepth 20000 in
theorem IsName_ref (s : ByteArray) (hs : s.size ≤ 9223372036854775807) : Ctr Tryz.prog 25 [.string s] [] (fun v H => ∃ b, v = .bool b ∧ H = []) := by
  refine Ctr.enter Tryz.func25 (by kernel_rfl) rfl Tryz.ntmps25 rfl rfl ?_
  intro G F R hR
  repeat' (first | (with_reducible intro _hh) | refine go1 ?_ | refine J_fork ?_ ?_ | refine J_gsP rfl rfl rfl rfl ?_ ?_ | refine K_condP rfl rfl ?_ ?_)
  any_goals refine K_return hR Tryz.func25 rfl _ rfl ⟨_, rfl, rfl⟩ (Ent.fin [] 0 rfl rfl)
  refine K_loop (fun i : Nat => i ≤ s.size) (fun i => s.size - i) (fun i => [(0, .string s), (3, .int .i64 i)]) (fun _ => F) 0 (Nat.zero_le _) rfl (by repeat (first | exact keep_nil | refine keep_cons rfl ?_)) (Ent.refl _) ?_
  intro i hi ih
  (refine go ?_)
  refine K_condP rfl rfl ?_ ?_
  · intro hlt
    (refine go ?_)
    refine J_indexStr (U := tab) rfl rfl rfl rfl rfl (by omega) hlt ?_
    repeat' (first | (with_reducible intro _hh) | refine go1 ?_ | refine J_fork ?_ ?_ | refine J_gsP rfl rfl rfl rfl ?_ ?_ | refine K_condP rfl rfl ?_ ?_)
    any_goals refine K_condA rfl rfl ?_ ?_
    any_goals (repeat' (first | (with_reducible intro _hh) | refine go1 ?_ | refine J_fork ?_ ?_ | refine J_gsP rfl rfl rfl rfl ?_ ?_ | refine K_condP rfl rfl ?_ ?_))
    any_goals refine K_return hR Tryz.func25 rfl _ rfl ⟨_, rfl, rfl⟩ (Ent.fin [] 0 rfl rfl)
    all_goals refine K_again ih (i + 1) rfl (by show i + 1 ≤ _; omega) (by omega) (by repeat (first | exact keep_nil | refine keep_cons rfl ?_)) (Ent.refl _)
  · intro hge
    (refine go ?_)
    refine K_return hR Tryz.func25 rfl _ rfl ⟨_, rfl, rfl⟩ (Ent.fin [] 0 rfl rfl)

theorem may_ref (br k : Nat) (D : RDk) (hD : ROk D k) : Ctr Tryz.prog 84 [ptr br] [rd br D] (fun v H => ∃ D' r, ROk D' k ∧ v = .int .i64 r ∧ H = [rd br D']) := by
  obtain ⟨room, now, sure, lv, sts, wrs, nxt, down, nowL, sureL, stsL, wl, arrs, nrows⟩ := D
  obtain ⟨bs, hb⟩ := hD.nxt
  simp only at hb
  obtain ⟨a, cap, rfl, hcap⟩ := hb.shape
  refine Ctr.enter Tryz.func84 (by kernel_rfl) rfl Tryz.ntmps84 rfl rfl ?_
  intro G F R hE
  refine K_ent (rd_o _ _ _ _ _ _ _ _ _ _ _ _ _ _ _ _) ?_
  cases down with
  | true =>
    (refine go ?_)
    refine K_return hE Tryz.func84 rfl _ rfl ⟨_, _, hD, rfl, rfl⟩ ((Ent.pick [0, 1, 2, 3, 4, 5, 6] rfl).trans (rd_c _ _ _ _ _ _ _ _ _ _ _ _ _ _ _ _))
  | false =>
    repeat' (first | (with_reducible intro _hh) | refine go1 ?_ | refine J_fork ?_ ?_ | refine J_gsP rfl rfl rfl rfl ?_ ?_ | refine K_condP rfl rfl ?_ ?_)
    · refine K_return hE Tryz.func84 rfl _ rfl ⟨_, _, hD, rfl, rfl⟩ ((Ent.pick [0, 1, 2, 3, 4, 5, 6] rfl).trans (rd_c _ _ _ _ _ _ _ _ _ _ _ _ _ _ _ _))
    obtain ⟨x, l, rfl⟩ := List.exists_cons_of_ne_nil (l := bs) (by rintro rfl; simp at *)
    have hv := hb.view 5
    obtain ⟨bb, oo, cc, hsl⟩ := hv.some (by simp [bV])
    simp only [Value.slice.injEq, true_and] at hsl
    obtain ⟨rfl, rfl⟩ := hsl
    refine J_at1 (U := tab) 0 rfl rfl rfl rfl rfl rfl rfl rfl (by simp) ?_
    (refine go ?_)
    refine J_loadV (U := tab) 1 rfl rfl rfl (hv.cell (i := 0) (c := u8 x) (by simp [bV])) rfl rfl ?_
    (refine go ?_)
    refine J_sliceAny (U := tab) (p := 1) (q := ((x :: l).length : Int)) rfl rfl rfl rfl rfl rfl rfl (by omega) (by simp; omega) (.inl rfl) ?_
    refine J_slot 25 (.slice (sliceAt (some ⟨bb, oo, none⟩) cap 1 1) l.length (cap - 1)) rfl (by simp only [List.length_cons, Int.toNat_natCast]; congr 1) ?_
    have hb2 := hb.cut 1 l.length (by simp; omega)
    have e : ((x :: l).drop 1).take l.length = l := by simp
    rw [e] at hb2
    repeat' (first | (with_reducible intro _hh) | refine go1 ?_ | refine J_fork ?_ ?_ | refine J_gsP rfl rfl rfl rfl ?_ ?_ | refine K_condP rfl rfl ?_ ?_)
    all_goals refine K_return hE Tryz.func84 rfl _ rfl ⟨_, _, hD.setNext _ hb2, rfl, rfl⟩ ((Ent.pick [0, 1, 2, 3, 4, 5, 6] rfl).trans (rd_c _ _ _ _ _ _ _ _ _ _ _ _ _ _ _ _))

/-- One of the names' files, or none. -/
theorem find_ref (br k : Nat) (D : RDk) (hD : ROk D k) (name : ByteArray) : Ctr Tryz.prog 66 [ptr br, .string name] [rd br D] (fun v H => ∃ r : Int, r < D.nowL.length ∧ -1 ≤ r ∧ v = .int .i64 r ∧ H = [rd br D]) := by
  obtain ⟨room, now, sure, lv, sts, wrs, nxt, down, nowL, sureL, stsL, wl, arrs, nrows⟩ := D
  obtain ⟨l, hl, hln, hlk⟩ := hD.l
  have hkk := hD.kk
  simp only at hl hln ⊢
  obtain ⟨a, cap, rfl, hcap⟩ := hl.shape
  have hv := hl.view 111
  refine Ctr.enter Tryz.func66 (by kernel_rfl) rfl Tryz.ntmps66 rfl rfl ?_
  intro G F R hE
  refine K_ent (rd_o _ _ _ _ _ _ _ _ _ _ _ _ _ _ _ _) ?_
  (refine go ?_)
  refine K_loop (fun i : Nat => i ≤ l.length) (fun i => l.length - i) (fun i => [(0, ptr br), (1, .string name), (5, .int .i64 i)])
    (fun _ => pts br (cl [.int .i64 room, now, sure, .slice a l.length cap, sts, wrs, nxt, .bool down] 61) :: arrS 5 arrs :: arrS 111 nrows ::
        slc 40 1 now nowL.length nowL :: slc 40 1 sure sureL.length sureL :: slc 58 1 sts stsL.length stsL :: slc 83 3 wrs wl.length (wl.flatMap wcell) :: F) 0 (Nat.zero_le _) rfl (by repeat (first | exact keep_nil | refine keep_cons rfl ?_)) (Ent.refl _) ?_
  intro i hi ih
  (refine go ?_)
  refine K_condP rfl rfl ?_ ?_
  · intro hlt
    have hi' : i < l.length := by omega
    obtain ⟨x, hx⟩ : ∃ x, l[i]? = some x := ⟨l[i], by simp⟩
    have hg : ∀ q, q < 2 → (l.flatMap ncell)[i * 2 + q]? = (ncell x)[q]? := fun q hq => chunk_get ncell_len hx q hq
    obtain ⟨bb, oo, cc, hsl⟩ := hv.some (by rw [← List.length_pos_iff, chunk_len ncell_len]; omega)
    simp only [Value.slice.injEq, true_and] at hsl
    obtain ⟨rfl, rfl⟩ := hsl
    (refine go ?_)
    refine J_at (U := tab) i 2 rfl rfl rfl rfl rfl rfl rfl rfl hi' ?_
    (refine go ?_)
    refine J_loadAt (U := tab) 2 (i * 2 + 0) rfl rfl rfl hv (Nat.add_assoc _ _ _) (hg 0 (by omega)) rfl rfl ?_
    (refine go ?_)
    refine K_condA rfl rfl ?_ ?_
    · intro he
      (refine go ?_)
      refine J_at (U := tab) i 2 rfl rfl rfl rfl rfl rfl rfl rfl hi' ?_
      (refine go ?_)
      refine J_loadAt (U := tab) 2 (i * 2 + 1) rfl rfl rfl hv (Nat.add_assoc _ _ _) (hg 1 (by omega)) rfl rfl ?_
      (refine go ?_)
      have := hln x (List.mem_of_getElem? hx)
      refine K_return hE Tryz.func66 rfl _ rfl ⟨_, by omega, by omega, rfl, rfl⟩ ((Ent.pick [0, 1, 2, 3, 4, 5, 6] rfl).trans (rd_c _ _ _ _ _ _ _ _ _ _ _ _ _ _ _ _))
    · intro he
      (refine go ?_)
      refine K_again ih (i + 1) rfl (by show i + 1 ≤ _; omega) (by omega) (by repeat (first | exact keep_nil | refine keep_cons rfl ?_)) (Ent.refl _)
  · intro hge
    (refine go ?_)
    refine K_return hE Tryz.func66 rfl _ rfl ⟨_, by omega, by omega, rfl, rfl⟩ ((Ent.pick [0, 1, 2, 3, 4, 5, 6] rfl).trans (rd_c _ _ _ _ _ _ _ _ _ _ _ _ _ _ _ _))

theorem cellsL_toArray' (l : List Value) : cellsL (Value.agg l.toArray) = l := rfl
/-- without: some of the names. -/
theorem without_ref (A : HP) (v : Value) (l : List Nm) (name : ByteArray) (hv : Vw A v l.length (l.flatMap ncell)) (hlk : l.length ≤ 1000000) :
    Ctr Tryz.prog 102 [v, .string name] [A] (fun r H => ∃ l' : List Nm, (∀ x ∈ l', x ∈ l) ∧ l'.length ≤ l.length ∧ H = [slc 111 2 r l'.length (l'.flatMap ncell), A]) := by
  obtain ⟨a, cap, rfl⟩ := hv.shape
  refine Ctr.enter Tryz.func102 (by kernel_rfl) rfl Tryz.ntmps102 rfl rfl ?_
  intro G F R hE
  (refine go ?_)
  refine K_ent (slc_lift 111 2 none _) ?_
  refine K_loop (fun s : Nat × List Nm × Option Addr × Nat => s.1 ≤ l.length ∧ (∀ x ∈ s.2.1, x ∈ l) ∧ s.2.1.length ≤ s.1) (fun s => l.length - s.1)
    (fun s => [(0, .slice a l.length cap), (1, .string name), (5, .slice s.2.2.1 s.2.1.length s.2.2.2), (6, .int .i64 s.1)])
    (fun s => slc 111 2 (.slice s.2.2.1 s.2.1.length s.2.2.2) s.2.1.length (s.2.1.flatMap ncell) :: A :: F) (0, [], none, 0) ⟨Nat.zero_le _, by simp, by simp⟩ rfl (by repeat (first | exact keep_nil | refine keep_cons rfl ?_)) (Ent.refl _) ?_
  rintro ⟨i, l', a', c'⟩ ⟨hi, hsub, hlen⟩ ih
  simp only at hi hsub hlen
  (refine go ?_)
  refine K_condP rfl rfl ?_ ?_
  · intro hlt
    simp only at hlt
    have hi' : i < l.length := by omega
    obtain ⟨x, hx⟩ : ∃ x, l[i]? = some x := ⟨l[i], by simp⟩
    have hg : ∀ q, q < 2 → (l.flatMap ncell)[i * 2 + q]? = (ncell x)[q]? := fun q hq => chunk_get ncell_len hx q hq
    obtain ⟨bb, oo, cc, hsl⟩ := hv.some (by rw [← List.length_pos_iff, chunk_len ncell_len]; omega)
    simp only [Value.slice.injEq, true_and] at hsl
    obtain ⟨rfl, rfl⟩ := hsl
    (refine go ?_)
    refine J_at (U := tab) i 2 rfl rfl rfl rfl rfl rfl rfl rfl hi' ?_
    (refine go ?_)
    refine J_loadAt (U := tab) 1 (i * 2 + 0) rfl rfl rfl hv (Nat.add_assoc _ _ _) (hg 0 (by omega)) rfl rfl ?_
    (refine go ?_)
    refine K_condA rfl rfl ?_ ?_
    · intro he
      (refine go ?_)
      refine J_at (U := tab) i 2 rfl rfl rfl rfl rfl rfl rfl rfl hi' ?_
      refine J_loadElem (U := tab) (es := ncell x) 1 (i * 2) rfl rfl rfl hv rfl (fun q v hq => ?_) rfl rfl rfl ?_
      · have hj2 : q < 2 := by
          rcases Nat.lt_or_ge q 2 with h | h
          · exact h
          · rw [List.getElem?_eq_none (by rw [ncell_len]; exact h)] at hq; cases hq
        rw [hg q hj2]; exact hq
      refine J_buildSlice1 (U := tab) (cs := ncell x) rfl rfl rfl rfl rfl rfl rfl rfl rfl (fun _ _ _ => trivial) ?_; intro b1; refine J_append (U := tab) (mm := 1) (news := ncell x) 1 0 rfl rfl rfl rfl rfl rfl rfl rfl rfl rfl rfl rfl (Vw.pts rfl) rfl (by simp [ncell, Value.oneCell']) (by simp only; omega) (by show _ * 24 ≤ _; simp only; omega) (fun _ => rfl) (fun _ _ _ => trivial) ?_; intro v'; rw [show List.flatMap ncell l' ++ ncell x = (l' ++ [x]).flatMap ncell from by simp, show List.length l' + 1 = (l' ++ [x]).length from by simp]; refine J_shape 1 rfl ?_; rintro a2 c2 rfl
      (refine go ?_)
      refine K_again ih (i + 1, l' ++ [x], a2, c2) rfl ⟨by simp only; omega, fun y hy => by (rcases List.mem_append.1 hy with h | h; exact hsub y h; simp only [List.mem_singleton] at h; subst h; exact List.mem_of_getElem? hx), by simp only [List.length_append, List.length_singleton]; omega⟩ (by simp only; omega) (by repeat (first | exact keep_nil | refine keep_cons rfl ?_)) (Ent.drop _ _)
    · intro he
      (refine go ?_)
      refine K_again ih (i + 1, l', a', c') rfl ⟨by simp only; omega, hsub, by simp only; omega⟩ (by simp only; omega) (by repeat (first | exact keep_nil | refine keep_cons rfl ?_)) (Ent.refl _)
  · intro hge
    (refine go ?_)
    refine K_return hE Tryz.func102 rfl _ rfl ⟨l', hsub, by omega, rfl⟩ (Ent.fin [0, 1] 0 rfl rfl)
/-- with: the names and one more. -/
theorem with_ref (A : HP) (v : Value) (l : List Nm) (x : Nm) (hv : Vw A v l.length (l.flatMap ncell)) (hlk : l.length ≤ 1000000) :
    Ctr Tryz.prog 103 [v, .agg (ncell x).toArray] [A] (fun r H => ∃ l' : List Nm, (∀ y ∈ l', y ∈ l ∨ y = x) ∧ l'.length ≤ l.length + 1 ∧ H = [slc 111 2 r l'.length (l'.flatMap ncell), A]) := by
  obtain ⟨a, cap, rfl⟩ := hv.shape
  refine Ctr.enter Tryz.func103 (by kernel_rfl) rfl Tryz.ntmps103 rfl rfl ?_
  intro G F R hE
  (refine go ?_)
  refine J_box rfl rfl (fun _ _ _ => trivial) ?_
  intro b0
  rw [cellsL_toArray']
  (refine go ?_)
  refine K_ent (slc_lift 111 2 none _) ?_
  refine K_loop (fun s : Nat × List Nm × Bool × Option Addr × Nat => s.1 ≤ l.length ∧ (∀ y ∈ s.2.1, y ∈ l ∨ y = x) ∧ s.2.1.length ≤ s.1 + s.2.2.1.toNat) (fun s => l.length - s.1)
    (fun s => [(0, .slice a l.length cap), (3, .pointer (some ⟨b0, 0, none⟩)), (5, .slice s.2.2.2.1 s.2.1.length s.2.2.2.2), (6, .bool s.2.2.1), (7, .int .i64 s.1)])
    (fun s => slc 111 2 (.slice s.2.2.2.1 s.2.1.length s.2.2.2.2) s.2.1.length (s.2.1.flatMap ncell) :: pts b0 (cl (ncell x) 111) :: A :: F) (0, [], false, none, 0) ⟨Nat.zero_le _, by simp, by simp⟩ rfl (by repeat (first | exact keep_nil | refine keep_cons rfl ?_)) (Ent.refl _) ?_
  rintro ⟨i, l', put, a', c'⟩ ⟨hi, hsub, hlen⟩ ih
  simp only at hi hsub hlen
  have hpb : put.toNat ≤ 1 := by cases put <;> simp
  (refine go ?_)
  refine K_condP rfl rfl ?_ ?_
  · intro hlt
    simp only at hlt
    have hi' : i < l.length := by omega
    obtain ⟨y, hy⟩ : ∃ y, l[i]? = some y := ⟨l[i], by simp⟩
    have hym := List.mem_of_getElem? hy
    have hg : ∀ q, q < 2 → (l.flatMap ncell)[i * 2 + q]? = (ncell y)[q]? := fun q hq => chunk_get ncell_len hy q hq
    obtain ⟨bb, oo, cc, hsl⟩ := hv.some (by rw [← List.length_pos_iff, chunk_len ncell_len]; omega)
    simp only [Value.slice.injEq, true_and] at hsl
    obtain ⟨rfl, rfl⟩ := hsl
    refine K_drawA (fun w => Sat G w ([pts b0 (cl (ncell x) 111), A])) (.st 0 (.st 1 (.st 2 (.st 3 (.st 4 (.st 5 (.st 6 (.st 7 (.st 8 (.st 9 (.st 10 (.st 11 .nil)))))))))))) rfl (by kernel_rfl) (by kernel_rfl) (by kernel_rfl) (fun w hw => hw.ent (Ent.pickOnly ([1, 2]) rfl)) ?_
    cases put with
    | true =>
      (refine go ?_)
      refine J_at (U := tab) i 2 rfl rfl rfl rfl rfl rfl rfl rfl hi' ?_
      (refine J_loadElem (U := tab) (es := ncell y) 2 (i * 2) rfl rfl rfl hv rfl (fun q v hq => (hg q (by rcases Nat.lt_or_ge q 2 with h | h; exact h; rw [List.getElem?_eq_none (by rw [ncell_len]; exact h)] at hq; cases hq)).trans hq) rfl rfl rfl ?_)
      refine J_buildSlice1 (U := tab) (cs := ncell y) rfl rfl rfl rfl rfl rfl rfl rfl rfl (fun _ _ _ => trivial) ?_; intro b1; refine J_append (U := tab) (mm := 1) (news := ncell y) 1 0 rfl rfl rfl rfl rfl rfl rfl rfl rfl rfl rfl rfl (Vw.pts rfl) rfl (by simp [ncell, Value.oneCell']) (by simp only; omega) (by show _ * 24 ≤ _; simp only; omega) (fun _ => rfl) (fun _ _ _ => trivial) ?_; intro v'; rw [show List.flatMap ncell l' ++ ncell y = (l' ++ [y]).flatMap ncell from by simp, show List.length l' + 1 = (l' ++ [y]).length from by simp]; refine J_shape 1 rfl ?_; rintro a2 c2 rfl
      (refine go ?_)
      refine K_again ih (i + 1, l' ++ [y], true, a2, c2) rfl ⟨by simp only; omega, fun z hz => by (rcases List.mem_append.1 hz with h | h; exact hsub z h; simp only [List.mem_singleton] at h; subst h; exact .inl hym), by simp only [List.length_append, List.length_singleton]; omega⟩ (by simp only; omega) (by repeat (first | exact keep_nil | refine keep_cons rfl ?_)) (Ent.drop _ _)
    | false =>
      (refine go ?_)
      refine J_at (U := tab) i 2 rfl rfl rfl rfl rfl rfl rfl rfl hi' ?_
      (refine go ?_)
      refine J_loadAtS (U := tab) 1 (i * 2 + 0) rfl rfl rfl hv (Nat.add_assoc _ _ _) (hg 0 (by omega)) rfl rfl ?_
      (refine go ?_)
      refine K_condA rfl rfl ?_ ?_
      · intro hgt
        (refine go ?_)
        refine J_loadElem (U := tab) (es := ncell x) (o := 0) (nn := 1) (cap := 1) 1 0 rfl rfl rfl (Vw.pts rfl) rfl (fun j v h => by simpa using h) rfl rfl rfl ?_
        refine J_buildSlice1 (U := tab) (cs := ncell x) rfl rfl rfl rfl rfl rfl rfl rfl rfl (fun _ _ _ => trivial) ?_; intro b1; refine J_append (U := tab) (mm := 1) (news := ncell x) 1 0 rfl rfl rfl rfl rfl rfl rfl rfl rfl rfl rfl rfl (Vw.pts rfl) rfl (by simp [ncell, Value.oneCell']) (by simp only; omega) (by show _ * 24 ≤ _; simp only; omega) (fun _ => rfl) (fun _ _ _ => trivial) ?_; intro v'; rw [show List.flatMap ncell l' ++ ncell x = (l' ++ [x]).flatMap ncell from by simp, show List.length l' + 1 = (l' ++ [x]).length from by simp]; refine J_shape 1 rfl ?_; rintro a2 c2 rfl
        refine J_ent (Ent.drop _ _) ?_
        (refine go ?_)
        refine J_at (U := tab) i 2 rfl rfl rfl rfl rfl rfl rfl rfl hi' ?_
        (refine J_loadElem (U := tab) (es := ncell y) 2 (i * 2) rfl rfl rfl hv rfl (fun q v hq => (hg q (by rcases Nat.lt_or_ge q 2 with h | h; exact h; rw [List.getElem?_eq_none (by rw [ncell_len]; exact h)] at hq; cases hq)).trans hq) rfl rfl rfl ?_)
        have hlen2 : (l' ++ [x]).length = l'.length + 1 := by simp
        refine J_buildSlice1 (U := tab) (cs := ncell y) rfl rfl rfl rfl rfl rfl rfl rfl rfl (fun _ _ _ => trivial) ?_
        intro b2
        simp only [Bool.toNat_false] at hlen
        refine J_append (U := tab) (mm := 1) (news := ncell y) 1 0 rfl rfl rfl rfl rfl rfl rfl rfl rfl rfl rfl rfl (Vw.pts rfl) rfl (by simp [ncell, Value.oneCell']) (by rw [hlen2]; omega) (by show _ * 24 ≤ _; rw [hlen2]; omega) (fun _ => rfl) (fun _ _ _ => trivial) ?_
        intro v''
        rw [show List.flatMap ncell (l' ++ [x]) ++ ncell y = (l' ++ [x] ++ [y]).flatMap ncell from by simp, show List.length (l' ++ [x]) + 1 = (l' ++ [x] ++ [y]).length from by simp]
        refine J_shape 1 rfl ?_
        rintro a3 c3 rfl
        (refine go ?_)
        refine K_again ih (i + 1, l' ++ [x] ++ [y], true, a3, c3) rfl ⟨by simp only; omega, fun z hz => by (simp only [List.mem_append, List.mem_singleton] at hz; rcases hz with (h | h) | h; exact hsub z h; exact .inr h; exact .inl (h ▸ hym)), by simp only [List.length_append, List.length_singleton, Bool.toNat_true]; omega⟩ (by simp only; omega) (by repeat (first | exact keep_nil | refine keep_cons rfl ?_)) (Ent.drop _ _)
      · intro hle
        (refine go ?_)
        refine J_at (U := tab) i 2 rfl rfl rfl rfl rfl rfl rfl rfl hi' ?_
        (refine J_loadElem (U := tab) (es := ncell y) 2 (i * 2) rfl rfl rfl hv rfl (fun q v hq => (hg q (by rcases Nat.lt_or_ge q 2 with h | h; exact h; rw [List.getElem?_eq_none (by rw [ncell_len]; exact h)] at hq; cases hq)).trans hq) rfl rfl rfl ?_)
        refine J_buildSlice1 (U := tab) (cs := ncell y) rfl rfl rfl rfl rfl rfl rfl rfl rfl (fun _ _ _ => trivial) ?_; intro b1; refine J_append (U := tab) (mm := 1) (news := ncell y) 1 0 rfl rfl rfl rfl rfl rfl rfl rfl rfl rfl rfl rfl (Vw.pts rfl) rfl (by simp [ncell, Value.oneCell']) (by simp only; omega) (by show _ * 24 ≤ _; simp only; omega) (fun _ => rfl) (fun _ _ _ => trivial) ?_; intro v'; rw [show List.flatMap ncell l' ++ ncell y = (l' ++ [y]).flatMap ncell from by simp, show List.length l' + 1 = (l' ++ [y]).length from by simp]; refine J_shape 1 rfl ?_; rintro a2 c2 rfl
        (refine go ?_)
        refine K_again ih (i + 1, l' ++ [y], false, a2, c2) rfl ⟨by simp only; omega, fun z hz => by (rcases List.mem_append.1 hz with h | h; exact hsub z h; simp only [List.mem_singleton] at h; subst h; exact .inl hym), by simp only [List.length_append, List.length_singleton]; omega⟩ (by simp only; omega) (by repeat (first | exact keep_nil | refine keep_cons rfl ?_)) (Ent.drop _ _)
  · intro hge
    simp only at hge
    cases put with
    | true =>
      (refine go ?_)
      refine K_return hE Tryz.func103 rfl _ rfl ⟨l', hsub, by simp only [Bool.toNat_true] at hlen; omega, rfl⟩ (Ent.fin [0, 2] 1 rfl rfl)
    | false =>
      simp only [Bool.toNat_false] at hlen
      (refine go ?_)
      refine J_loadElem (U := tab) (es := ncell x) (o := 0) (nn := 1) (cap := 1) 1 0 rfl rfl rfl (Vw.pts rfl) rfl (fun j v h => by simpa using h) rfl rfl rfl ?_
      refine J_buildSlice1 (U := tab) (cs := ncell x) rfl rfl rfl rfl rfl rfl rfl rfl rfl (fun _ _ _ => trivial) ?_; intro b1; refine J_append (U := tab) (mm := 1) (news := ncell x) 1 0 rfl rfl rfl rfl rfl rfl rfl rfl rfl rfl rfl rfl (Vw.pts rfl) rfl (by simp [ncell, Value.oneCell']) (by simp only; omega) (by show _ * 24 ≤ _; simp only; omega) (fun _ => rfl) (fun _ _ _ => trivial) ?_; intro v'; rw [show List.flatMap ncell l' ++ ncell x = (l' ++ [x]).flatMap ncell from by simp, show List.length l' + 1 = (l' ++ [x]).length from by simp]; refine J_shape 1 rfl ?_; rintro a2 c2 rfl
      (refine go ?_)
      refine K_return hE Tryz.func103 rfl _ rfl ⟨l' ++ [x], fun z hz => by (rcases List.mem_append.1 hz with h | h; exact hsub z h; simp only [List.mem_singleton] at h; exact .inr h), by simp only [List.length_append, List.length_singleton]; omega, rfl⟩ (Ent.fin [1, 3] 2 rfl rfl)

/-- named: the names are these from now on. -/
theorem named_ref (br k : Nat) (D : RDk) (hD : ROk D k) (hk : k + 1 ≤ 100000) (v : Value) (hv : NOk D.nrows D.nowL.length (k + 1) v) :
    Ctr Tryz.prog 101 [ptr br, v] [rd br D] (fun _ H => ∃ D', ROk D' (k + 1) ∧ H = [rd br D']) := by
  obtain ⟨room, now, sure, lv, sts, wrs, nxt, down, nowL, sureL, stsL, wl, arrs, nrows⟩ := D
  have hsk := hD.sk
  simp only at hv hsk ⊢
  obtain ⟨l, hl, hln, hlk⟩ := hv
  obtain ⟨a, cap, rfl, hcap⟩ := hl.shape
  refine Ctr.enter Tryz.func101 (by kernel_rfl) rfl Tryz.ntmps101 rfl rfl ?_
  intro G F R hE
  refine K_ent (rd_o _ _ _ _ _ _ _ _ _ _ _ _ _ _ _ _) ?_
  refine K_shape 5 rfl ?_
  rintro sa sc rfl
  (refine go ?_)
  refine J_buildSlice1 (U := tab) rfl rfl rfl rfl rfl rfl rfl rfl rfl (fun _ _ _ => trivial) ?_
  intro b0
  (refine go ?_)
  refine J_ent (slc_row 58 1 b0 0 0 [] [] _ rfl (Nat.le_refl _) (by simp)) ?_
  refine J_slcVw 6 rfl ?_
  intro hvs
  have hone : ∀ u ∈ stsL, u.oneCell' = true := fun u hu => by
    obtain ⟨_, h, _⟩ := hD.sts u hu
    obtain ⟨_, _, rfl, _⟩ := h.shape; rfl
  refine J_append (U := tab) (mm := stsL.length) (news := stsL) 0 6 rfl rfl rfl rfl rfl rfl rfl rfl rfl rfl rfl rfl hvs (by show _ = _ * 1; omega) hone (by omega) (by show _ * 24 ≤ _; omega) (fun _ => rfl) (fun _ _ _ => trivial) ?_
  intro v1
  have e1 : (0 : Nat) + stsL.length = stsL.length := by omega
  rw [e1, List.nil_append]
  refine J_shape 0 rfl ?_
  rintro a1 c1 rfl
  (refine go ?_)
  refine J_buildSlice1 (U := tab) rfl rfl rfl rfl rfl rfl rfl rfl rfl (fun _ _ _ => trivial) ?_
  intro b1
  refine J_append (U := tab) (mm := 1) (news := [.slice a l.length cap]) 1 0 rfl rfl rfl rfl rfl rfl rfl rfl rfl rfl rfl rfl (Vw.pts rfl) rfl (by simp [Value.oneCell']) (by omega) (by show _ * 24 ≤ _; omega) (fun _ => rfl) (fun _ _ _ => trivial) ?_
  intro v2
  have e2 : stsL.length + 1 = (stsL ++ [Value.slice a l.length cap]).length := by simp
  rw [e2]
  refine J_shape 1 rfl ?_
  rintro a2 c2 rfl
  (refine go ?_)
  (refine K_ent (Ent.pick ([2, 3, 4, 5, 6, 1, 8]) rfl) ?_; refine K_ent (rd_c _ _ _ _ _ _ _ _ _ _ _ _ _ _ _ _) ?_)
  have hD2 : ROk ⟨room, now, sure, .slice a l.length cap, .slice a2 (stsL ++ [Value.slice a l.length cap]).length c2, wrs, nxt, down, nowL, sureL, stsL ++ [Value.slice a l.length cap], wl, arrs, nrows⟩ (k + 1) :=
    { nl := hD.nl, nk := Nat.le_succ_of_le hD.nk, now := hD.now, sure := hD.sure, l := ⟨l, hl, hln, hlk⟩
      sts := fun v hv => by
        rcases List.mem_append.1 hv with h | h
        · exact (hD.sts v h).mono (fun _ h => h) (Nat.le_refl _) (Nat.le_succ _)
        · simp only [List.mem_singleton] at h; subst h; exact ⟨l, hl, hln, hlk⟩
      full := by simp, sk := by simp only [List.length_append, List.length_singleton]; omega, wr := hD.wr, wk := Nat.le_succ_of_le hD.wk, nxt := hD.nxt, kk := hk }
  refine K_fallEnd hE Tryz.func101 rfl _ rfl ⟨_, hD2, rfl⟩ (Ent.fin [0] 2 rfl rfl)

/-- Used: some number. -/
theorem Used_ref (br k : Nat) (D : RDk) (hD : ROk D k) : Ctr Tryz.prog 85 [ptr br] [rd br D] (fun v H => ∃ r : Nat, r ≤ k * 1048576 ∧ v = .int .i64 (r : Int) ∧ H = [rd br D]) := by
  obtain ⟨room, now, sure, lv, sts, wrs, nxt, down, nowL, sureL, stsL, wl, arrs, nrows⟩ := D
  obtain ⟨l, hl, hln, hlk⟩ := hD.l
  have hkk := hD.kk
  have hnow := hD.now
  simp only at hl hln hnow ⊢
  obtain ⟨a, cap, rfl, hcap⟩ := hl.shape
  have hv := hl.view 111
  refine Ctr.enter Tryz.func85 (by kernel_rfl) rfl Tryz.ntmps85 rfl rfl ?_
  intro G F R hE
  (refine K_ent (rd_o _ _ _ _ _ _ _ _ _ _ _ _ _ _ _ _) ?_)
  refine K_shape 3 rfl ?_
  rintro na nc rfl
  (refine go ?_)
  refine K_loop (fun s : Nat × Nat => s.1 ≤ l.length ∧ s.2 ≤ s.1 * 1048576) (fun s => l.length - s.1) (fun s => [(0, ptr br), (3, .int .i64 s.2), (4, .int .i64 s.1)])
    (fun _ => pts br (cl [.int .i64 room, .slice na nowL.length nc, sure, .slice a l.length cap, sts, wrs, nxt, .bool down] 61) :: arrS 5 arrs :: arrS 111 nrows ::
        slc 40 1 (.slice na nowL.length nc) nowL.length nowL :: slc 40 1 sure sureL.length sureL :: slc 58 1 sts stsL.length stsL :: slc 83 3 wrs wl.length (wl.flatMap wcell) :: F) (0, 0) ⟨Nat.zero_le _, by simp⟩ rfl (by repeat (first | exact keep_nil | refine keep_cons rfl ?_)) (Ent.refl _) ?_
  rintro ⟨i, u⟩ ⟨hi, hu⟩ ih
  simp only at hi hu
  (refine go ?_)
  refine K_condP rfl rfl ?_ ?_
  · intro hlt
    simp only at hlt
    have hi' : i < l.length := by omega
    obtain ⟨x, hx⟩ : ∃ x, l[i]? = some x := ⟨l[i], by simp⟩
    have hg : ∀ q, q < 2 → (l.flatMap ncell)[i * 2 + q]? = (ncell x)[q]? := fun q hq => chunk_get ncell_len hx q hq
    obtain ⟨bb, oo, cc, hsl⟩ := hv.some (by rw [← List.length_pos_iff, chunk_len ncell_len]; omega)
    simp only [Value.slice.injEq, true_and] at hsl
    obtain ⟨rfl, rfl⟩ := hsl
    have hxn := hln x (List.mem_of_getElem? hx)
    obtain ⟨bv, hbv⟩ : ∃ v, nowL[x.2]? = some v := ⟨nowL[x.2], by simp⟩
    obtain ⟨bs, hbs, hbl⟩ := hnow bv (List.mem_of_getElem? hbv)
    obtain ⟨ba, bc, rfl, _⟩ := hbs.shape
    refine K_ent (Ent.refl _) ?_
    refine K_slcVw 3 rfl ?_
    intro hvn
    obtain ⟨nb, no, nc', hns⟩ := hvn.some (by rw [← List.length_pos_iff]; omega)
    simp only [Value.slice.injEq, true_and] at hns
    obtain ⟨rfl, rfl⟩ := hns
    refine K_drawA (fun w => Sat G w ([pts br (cl [.int .i64 room, .slice (some ⟨nb, no, none⟩) nowL.length nc, sure, .slice (some ⟨bb, oo, none⟩) l.length cap, sts, wrs, nxt, .bool down] 61), arrS 111 nrows, slc 40 1 (.slice (some ⟨nb, no, none⟩) nowL.length nc) nowL.length nowL])) (.st 0 (.st 1 (.st 2 (.st 3 (.st 4 (.st 5 (.st 6 (.st 7 (.st 8 (.st 9 (.st 10 (.st 11 (.st 12 (.st 13 (.st 14 (.st 15 (.st 16 (.st 17 .nil)))))))))))))))))) rfl (by kernel_rfl) (by kernel_rfl) (by kernel_rfl) (fun w hw => hw.ent (Ent.pickOnly ([0, 2, 3]) rfl)) ?_
    (refine go ?_)
    refine J_at (U := tab) i 2 rfl rfl rfl rfl rfl rfl rfl rfl hi' ?_
    (refine go ?_)
    refine J_loadAtS (U := tab) 1 (i * 2 + 1) rfl rfl rfl hv (Nat.add_assoc _ _ _) (hg 1 (by omega)) rfl rfl ?_
    (refine go ?_)
    refine J_at1 (U := tab) x.2 rfl rfl rfl rfl rfl rfl rfl rfl hxn ?_
    (refine go ?_)
    refine J_loadAtS (U := tab) 2 x.2 rfl rfl rfl hvn rfl hbv rfl rfl ?_
    (refine go ?_)
    refine K_again ih (i + 1, u + bs.length) rfl ⟨by simp only; omega, by simp only; omega⟩ (by simp only; omega) (by repeat (first | exact keep_nil | refine keep_cons rfl ?_)) (Ent.refl _)
  · intro hge
    simp only at hge
    have hub := Nat.le_trans hu (Nat.mul_le_mul_right _ (Nat.le_trans hi hlk))
    (refine go ?_)
    refine K_return hE Tryz.func85 rfl _ rfl ⟨u, hub, rfl, rfl⟩ ((Ent.pick [0, 1, 2, 3, 4, 5, 6] rfl).trans (rd_c _ _ _ _ _ _ _ _ _ _ _ _ _ _ _ _))
end Go.Proofs.YtpdmbmnhgcnelaaGreat

/- the reference's disk, part m: its plain model, how it lies in memory. -/
set_option linter.unusedVariables false
set_option linter.unusedSimpArgs false
namespace Go.Proofs.YtpdmbmnhgcnelaaGreat
open Go Go.SL
structure RM where
  room : Int
  now : List (List UInt8)
  sure : List (List UInt8)
  l : List Nm
  sts : List (List Nm)
  wr : List (Nat × Nat × List UInt8)
  nxt : List UInt8
  down : Bool
namespace RM
def may (m : RM) : Nat × RM := if m.down = true then (7, m) else match m.nxt with
  | [] => (0, m)
  | x :: p => if x = 1 then (6, { m with nxt := p }) else if x = 2 then (7, { m with nxt := p, down := true }) else (0, { m with nxt := p })
def find (m : RM) (name : ByteArray) : Option Nat := (m.l.find? fun x => decide (x.1 = name)).map (·.2)
def without (l : List Nm) (name : ByteArray) : List Nm := l.filter fun x => !decide (x.1 = name)
def with_ (l : List Nm) (x : Nm) : List Nm := match l with
  | [] => [x]
  | y :: l => if (!(ltS y.1 x.1 || eqS y.1 x.1)) = true then x :: y :: l else y :: with_ l x
def named (m : RM) (l : List Nm) : RM := { m with l := l, sts := m.sts ++ [l] }
def file (m : RM) (f : Nat) : List UInt8 := m.now.getD f []
def used (m : RM) : Nat := (m.l.map fun x => (m.file x.2).length).sum
def create (m : RM) (ok : Bool) (name : ByteArray) : Nat × RM :=
  if ok = false then (1, m) else if m.may.1 ≠ 0 then m.may else if (m.may.2.find name).isSome = true then (5, m.may.2) else if 200 ≤ m.may.2.l.length then (3, m.may.2)
  else (0, ({ m.may.2 with now := m.may.2.now ++ [[]], sure := m.may.2.sure ++ [[]] } : RM).named (with_ m.may.2.l (name, m.may.2.now.length)))
def write (m : RM) (ok : Bool) (name : ByteArray) (at_ : Nat) (b : List UInt8) : Nat × RM :=
  if ok = false then (1, m) else if m.may.1 ≠ 0 then m.may else match m.may.2.find name with
  | none => (4, m.may.2)
  | some f => if m.may.2.room < (m.may.2.used : Int) - (m.may.2.file f).length + (wroteL (m.may.2.file f) at_ b).length then (3, m.may.2)
    else (0, { m.may.2 with now := m.may.2.now.set f (wroteL (m.may.2.file f) at_ b), wr := m.may.2.wr ++ [(f, at_, b)] })
def sync (m : RM) (ok : Bool) (name : ByteArray) : Nat × RM :=
  if ok = false then (1, m) else if m.may.1 ≠ 0 then m.may else match m.may.2.find name with
  | none => (4, m.may.2)
  | some f => (0, { m.may.2 with sure := m.may.2.sure.set f (m.may.2.file f), wr := m.may.2.wr.filter fun x => !decide (x.1 = f) })
def rename (m : RM) (ok : Bool) (old name : ByteArray) : Nat × RM :=
  if ok = false then (1, m) else if m.may.1 ≠ 0 then m.may else match m.may.2.find old with
  | none => (4, m.may.2)
  | some f => (0, m.may.2.named (with_ (without (without m.may.2.l old) name) (name, f)))
def remove (m : RM) (ok : Bool) (name : ByteArray) : Nat × RM :=
  if ok = false then (1, m) else if m.may.1 ≠ 0 then m.may else match m.may.2.find name with
  | none => (4, m.may.2)
  | some _ => (0, m.may.2.named (without m.may.2.l name))
def syncNames (m : RM) : Nat × RM := if m.may.1 ≠ 0 then m.may else (0, { m.may.2 with sts := [m.may.2.l] })
def size (m : RM) (name : ByteArray) : Nat × Nat := match m.find name with
  | none => (0, 4)
  | some f => ((m.file f).length, 0)
def read (m : RM) (name : ByteArray) (at_ n : Int) : List UInt8 × Nat := if m.down = true then ([], 7) else match m.find name with
  | none => ([], 4)
  | some f => if at_ < 0 ∨ n < 0 ∨ ((m.file f).length : Int) < at_ ∨ ((m.file f).length : Int) - at_ < n then ([], 1) else (((m.file f).drop at_.toNat).take n.toNat, 0)
end RM
/-- How a disk of the reference lies in memory. -/
structure RR (D : RDk) (m : RM) : Prop where
  room : D.room = m.room
  down : D.down = m.down
  nxt : BIn D.arrs D.nxt m.nxt
  now : All2 (fun v b => BIn D.arrs v b) D.nowL m.now
  sure : All2 (fun v b => BIn D.arrs v b) D.sureL m.sure
  l : RIn D.nrows 2 D.lv m.l.length (m.l.flatMap ncell)
  sts : All2 (fun v l => RIn D.nrows 2 v l.length (l.flatMap ncell)) D.stsL m.sts
  wr : All2 (fun x y => x.1 = y.1 ∧ x.2.1 = y.2.1 ∧ BIn D.arrs x.2.2 y.2.2) D.wl m.wr
/-- What is so of its numbers; k: how often something was done at most. -/
structure MOk (m : RM) (k : Nat) : Prop where
  nl : m.sure.length = m.now.length
  nk : m.now.length ≤ k
  now : ∀ b ∈ m.now, b.length ≤ 1048576
  sure : ∀ b ∈ m.sure, b.length ≤ 1048576
  l : ∀ x ∈ m.l, x.2 < m.now.length
  ll : m.l.length ≤ k
  sts : ∀ st ∈ m.sts, (∀ x ∈ st, x.2 < m.now.length) ∧ st.length ≤ k
  full : m.sts ≠ []
  sk : m.sts.length ≤ k + 1
  wr : ∀ x ∈ m.wr, x.1 < m.now.length ∧ x.2.1 + x.2.2.length ≤ 1048576
  wk : m.wr.length ≤ k
  kk : k ≤ 100000
  room : m.room ≤ 1073741824
theorem RR.down' {D : RDk} {m : RM} (h : RR D m) {nxt : Value} {p : List UInt8} (b : Bool) (hb : BIn D.arrs nxt p) : RR { D with nxt := nxt, down := b } { m with nxt := p, down := b } := ⟨h.room, rfl, hb, h.now, h.sure, h.l, h.sts, h.wr⟩
theorem RR.setN {D : RDk} {m : RM} (h : RR D m) {nxt : Value} {p : List UInt8} (hb : BIn D.arrs nxt p) : RR { D with nxt := nxt } { m with nxt := p } := ⟨h.room, h.down, hb, h.now, h.sure, h.l, h.sts, h.wr⟩
theorem RM.may_same (m : RM) : m.may.2.now = m.now ∧ m.may.2.sure = m.sure ∧ m.may.2.l = m.l ∧ m.may.2.sts = m.sts ∧ m.may.2.wr = m.wr ∧ m.may.2.room = m.room := by
  unfold RM.may
  split
  · simp
  · split
    · simp
    · split
      · simp
      · split <;> simp
theorem MOk.may {m : RM} {k : Nat} (h : MOk m k) : MOk m.may.2 k := by
  obtain ⟨h1, h2, h3, h4, h5, h6⟩ := m.may_same
  exact ⟨by rw [h1, h2]; exact h.nl, by rw [h1]; exact h.nk, by rw [h1]; exact h.now, by rw [h2]; exact h.sure, by rw [h1, h3]; exact h.l, by rw [h3]; exact h.ll, by rw [h1, h4]; exact h.sts, by rw [h4]; exact h.full, by rw [h4]; exact h.sk, by rw [h1, h5]; exact h.wr, by rw [h5]; exact h.wk, h.kk, by rw [h6]; exact h.room⟩
attribute [local irreducible] J K Ctr Ends pts slc mapR mapI sbRow stock arrS

set_option maxRecDepth 20000 in
theorem mMay_any (br : Nat) (D : RDk) (m : RM) (hR : RR D m) : Ctr Tryz.prog 84 [ptr br] [rd br D] (fun v H => ∃ D', RR D' m.may.2 ∧ v = .int .i64 (m.may.1 : Int) ∧ H = [rd br D']) := by
  obtain ⟨room, now, sure, lv, sts, wrs, nxt, down, nowL, sureL, stsL, wl, arrs, nrows⟩ := D
  have hb := hR.nxt
  have hd := hR.down
  simp only at hb hd
  obtain ⟨a, cap, rfl, hcap⟩ := hb.shape
  refine Ctr.enter Tryz.func84 (by kernel_rfl) rfl Tryz.ntmps84 rfl rfl ?_
  intro G F R hE
  refine K_ent (rd_o _ _ _ _ _ _ _ _ _ _ _ _ _ _ _ _) ?_
  cases down with
  | true =>
    have hm : m.may = (7, m) := by unfold RM.may; rw [if_pos hd.symm]
    rw [hm] at hE
    (refine go ?_)
    refine K_return hE Tryz.func84 rfl _ rfl ⟨_, hR, rfl, rfl⟩ ((Ent.pick [0, 1, 2, 3, 4, 5, 6] rfl).trans (rd_c _ _ _ _ _ _ _ _ _ _ _ _ _ _ _ _))
  | false =>
    by_cases hx : m.nxt = []
    · have hm : m.may = (0, m) := by unfold RM.may; rw [if_neg (by rw [← hd]; simp), hx]
      rw [hm] at hE
      repeat' (first | (with_reducible intro _hh) | refine go1 ?_ | refine J_fork ?_ ?_ | refine J_gsP rfl rfl rfl rfl ?_ ?_ | refine K_condP rfl rfl ?_ ?_)
      · refine K_return hE Tryz.func84 rfl _ rfl ⟨_, hR, rfl, rfl⟩ ((Ent.pick [0, 1, 2, 3, 4, 5, 6] rfl).trans (rd_c _ _ _ _ _ _ _ _ _ _ _ _ _ _ _ _))
      all_goals (exfalso; exact _hh (by rw [hx]; rfl))
    obtain ⟨x, p, hxp⟩ := List.exists_cons_of_ne_nil hx
    have hm : m.may = if x = 1 then (6, { m with nxt := p }) else if x = 2 then (7, { m with nxt := p, down := true }) else (0, { m with nxt := p }) := by unfold RM.may; rw [if_neg (by rw [← hd]; simp), hxp]
    have hlen : m.nxt.length = p.length + 1 := by rw [hxp]; rfl
    have hb' : BIn arrs (.slice a m.nxt.length cap) (x :: p) := by rw [← hxp]; exact hb
    have hv := hb'.view 5
    obtain ⟨bb, oo, cc, hsl⟩ := hv.some (by simp [bV])
    simp only [Value.slice.injEq] at hsl
    obtain ⟨rfl, -, rfl⟩ := hsl
    have hb2 := hb'.cut 1 p.length (by simp; omega)
    rw [show ((x :: p).drop 1).take p.length = p from by simp] at hb2
    repeat' (first | (with_reducible intro _hh) | refine go1 ?_ | refine J_fork ?_ ?_ | refine J_gsP rfl rfl rfl rfl ?_ ?_ | refine K_condP rfl rfl ?_ ?_)
    · exfalso; exact hx (List.eq_nil_of_length_eq_zero (by omega))
    refine J_at1 (U := tab) 0 rfl rfl rfl rfl rfl rfl rfl rfl (by omega) ?_
    (refine go ?_)
    refine J_loadV (U := tab) 1 rfl rfl rfl (Vw.cell (cap := cap) (n := (x :: p).length) (cs := bV (x :: p)) (by have := hv; rw [hxp] at this; exact this) (i := 0) (c := u8 x) (by simp [bV])) rfl rfl ?_
    (refine go ?_)
    refine J_sliceAny (U := tab) (p := 1) (q := (m.nxt.length : Int)) rfl rfl rfl rfl rfl rfl rfl (by omega) (by omega) (.inl rfl) ?_
    refine J_slot 25 (.slice (sliceAt (some ⟨bb, oo, none⟩) cap 1 1) p.length (cap - 1)) rfl (by rw [hlen]; simp only [Int.toNat_natCast]; congr 1) ?_
    (refine go ?_)
    refine K_condP rfl rfl ?_ ?_
    · intro hx1
      rw [hm, if_pos (u8_inj hx1)] at hE
      (refine go ?_)
      refine K_return hE Tryz.func84 rfl _ rfl ⟨_, hR.setN hb2, rfl, rfl⟩ ((Ent.pick [0, 1, 2, 3, 4, 5, 6] rfl).trans (rd_c _ _ _ _ _ _ _ _ _ _ _ _ _ _ _ _))
    intro hx1
    have hx1' : x ≠ 1 := fun h => hx1 (by rw [h]; rfl)
    (refine go ?_)
    refine K_condP rfl rfl ?_ ?_
    · intro hx2
      rw [hm, if_neg hx1', if_pos (u8_inj hx2)] at hE
      (refine go ?_)
      refine K_return hE Tryz.func84 rfl _ rfl ⟨_, hR.down' true hb2, rfl, rfl⟩ ((Ent.pick [0, 1, 2, 3, 4, 5, 6] rfl).trans (rd_c _ _ _ _ _ _ _ _ _ _ _ _ _ _ _ _))
    intro hx2
    have hx2' : x ≠ 2 := fun h => hx2 (by rw [h]; rfl)
    rw [hm, if_neg hx1', if_neg hx2'] at hE
    (refine go ?_)
    refine K_return hE Tryz.func84 rfl _ rfl ⟨_, hR.setN hb2, rfl, rfl⟩ ((Ent.pick [0, 1, 2, 3, 4, 5, 6] rfl).trans (rd_c _ _ _ _ _ _ _ _ _ _ _ _ _ _ _ _))
end Go.Proofs.YtpdmbmnhgcnelaaGreat

/- Engine, part M: bytes of numbers, numbers of bytes; bits that do not meet. Nothing here names a program. -/
set_option linter.unusedVariables false
set_option linter.unusedSimpArgs false
namespace Go.SL
/-- So many that hold in whatever order, from the i-th on. -/
def sts : Nat → Nat → Pt → Pt
  | _, 0, p => p
  | i, n + 1, p => .st i (sts (i + 1) n p)
theorem conv_u8 (n : Nat) : Value.int .u8 (IntKind.u8.wrap (n : Int)) = u8 (UInt8.ofNat n) := by
  have h : IntKind.u8.wrap (n : Int) = (n : Int) % 256 := by simp [IntKind.wrap, IntKind.bits, IntKind.signed]
  rw [h]
  simp only [u8, UInt8.toNat_ofNat']
  congr 1
theorem or_disj {a c k : Nat} (ha : a < 2 ^ k) : a ||| c * 2 ^ k = a + c * 2 ^ k := by
  have := Nat.shiftLeft_add_eq_or_of_lt ha c
  rw [Nat.shiftLeft_eq] at this
  rw [Nat.or_comm, ← this, Nat.add_comm]
theorem ofNat64 {a : Nat} (h : a < 18446744073709551616) : (BitVec.ofInt IntKind.i64.bits (a : Int)).toNat = a := by
  rw [ofInt64]; omega
theorem ofNatU64 {a : Nat} (h : a < 18446744073709551616) : (BitVec.ofInt IntKind.u64.bits (a : Int)).toNat = a := by
  rw [BitVec.toNat_ofInt]
  show ((a : Int) % 18446744073709551616).toNat = a
  omega
theorem ofNatU8 {a : Nat} (h : a < 256) : (BitVec.ofInt IntKind.u8.bits (a : Int)).toNat = a := by
  rw [BitVec.toNat_ofInt]
  show ((a : Int) % 256).toNat = a
  omega
theorem or_i64 {a c k : Nat} (ha : a < 2 ^ k) (h : a + c * 2 ^ k < 9223372036854775808) :
    IntKind.i64.wrap ((BitVec.ofInt IntKind.i64.bits (a : Int) ||| BitVec.ofInt IntKind.i64.bits ((c * 2 ^ k : Nat) : Int)).toNat : Int) = ((a + c * 2 ^ k : Nat) : Int) := by
  rw [BitVec.toNat_or, ofNat64 (by omega), ofNat64 (by omega), or_disj ha]
  exact wrap_in (by simp only [inK]; omega)
theorem or_u64 {a c k : Nat} (ha : a < 2 ^ k) (h : a + c * 2 ^ k < 18446744073709551616) :
    IntKind.u64.wrap ((BitVec.ofInt IntKind.u64.bits (a : Int) ||| BitVec.ofInt IntKind.u64.bits ((c * 2 ^ k : Nat) : Int)).toNat : Int) = ((a + c * 2 ^ k : Nat) : Int) := by
  rw [BitVec.toNat_or, ofNatU64 (by omega), ofNatU64 (by omega), or_disj ha]
  exact wrap_in (by simp only [inK]; omega)
set_option maxRecDepth 10000 in
theorem or128_u8 (x : Nat) (hx : x < 256) : IntKind.u8.wrap ((BitVec.ofInt IntKind.u8.bits (x : Int) ||| BitVec.ofInt IntKind.u8.bits 128).toNat : Int) = ((x % 128 + 128 : Nat) : Int) := by
  have e2 : (BitVec.ofInt IntKind.u8.bits (128 : Int)).toNat = 128 := by decide
  have h : ∀ y, y < 256 → y ||| 128 = y % 128 + 128 := by decide
  rw [BitVec.toNat_or, ofNatU8 hx, e2, h x hx]
  exact wrap_in (by simp only [inK]; omega)
theorem andNot128_u8 (x : Nat) (hx : x < 256) : IntKind.u8.wrap ((BitVec.ofInt IntKind.u8.bits (x : Int) &&& ~~~ BitVec.ofInt IntKind.u8.bits 128).toNat : Int) = ((x % 128 : Nat) : Int) := by
  have e2 : (~~~ BitVec.ofInt IntKind.u8.bits (128 : Int)).toNat = 2 ^ 7 - 1 := by decide
  rw [BitVec.toNat_and, ofNatU8 hx, e2, Nat.and_two_pow_sub_one_eq_mod]
  exact wrap_in (by simp only [inK]; omega)
theorem and_mask_u64 (x n : Nat) (hx : x < 18446744073709551616) (hn : n < 64) : IntKind.u64.wrap ((BitVec.ofInt IntKind.u64.bits (x : Int) &&& BitVec.ofInt IntKind.u64.bits ((2 ^ n - 1 : Nat) : Int)).toNat : Int) = ((x % 2 ^ n : Nat) : Int) := by
  have hp : 2 ^ n < 2 ^ 64 := Nat.pow_lt_pow_right (by omega) hn
  have hpos : 0 < 2 ^ n := Nat.pow_pos (by omega)
  rw [BitVec.toNat_and, ofNatU64 hx, ofNatU64 (by omega), Nat.and_two_pow_sub_one_eq_mod]
  have hlt : x % 2 ^ n < 18446744073709551616 := Nat.lt_of_le_of_lt (Nat.mod_le _ _) hx
  exact wrap_in (by simp only [inK]; omega)
/-- Four bytes of a number, the number of four. -/
def le4 (n : Nat) : List UInt8 := [UInt8.ofNat n, UInt8.ofNat (n / 256), UInt8.ofNat (n / 65536), UInt8.ofNat (n / 16777216)]
def leN (b : List UInt8) : Nat := (b.getD 0 0).toNat + (b.getD 1 0).toNat * 256 + (b.getD 2 0).toNat * 65536 + (b.getD 3 0).toNat * 16777216
theorem le4_len (n : Nat) : (le4 n).length = 4 := rfl
theorem leN_le4 (n : Nat) (h : n < 4294967296) (rest : List UInt8) : leN (le4 n ++ rest) = n := by
  simp only [leN, le4, List.cons_append, List.getD_cons_zero, List.getD_cons_succ, UInt8.toNat_ofNat']
  omega
theorem leN_lt (b : List UInt8) : leN b < 4294967296 := by
  unfold leN
  have h : ∀ x : UInt8, x.toNat < 256 := fun x => x.toNat_lt
  have h0 := h (b.getD 0 0); have h1 := h (b.getD 1 0); have h2 := h (b.getD 2 0); have h3 := h (b.getD 3 0)
  omega
theorem le4_leN (b : List UInt8) (h : b.length = 4) : le4 (leN b) = b := by
  match b, h with
  | [a, b, c, d], _ =>
    have h : ∀ x : UInt8, x.toNat < 256 := fun x => x.toNat_lt
    have h0 := h a; have h1 := h b; have h2 := h c; have h3 := h d
    simp only [leN, le4, List.getD_cons_zero, List.getD_cons_succ, List.cons.injEq, and_true]
    refine ⟨?_, ?_, ?_, ?_⟩ <;> apply UInt8.toNat_inj.1 <;> simp only [UInt8.toNat_ofNat'] <;> omega
end Go.SL

/- Engine, part U: assertions sought out by themselves; calls and ends by them. Nothing here names a program. -/
set_option linter.unusedVariables false
set_option linter.unusedSimpArgs false
namespace Go.SL
open Go
theorem Ent.take1 {H H' rest : List HP} {A : HP} (i : Nat) (h : nthP i H [] = .mk A rest) (hr : Ent rest H') : Ent H (A :: H') :=
  (Ent.perm (by simpa using nthP_perm i H [] A rest h)).trans (Ent.cons A hr)
theorem Ent.toNil (H : List HP) : Ent H [] := fun h hs => ⟨fun _ => none, ⟨fun b o e => (by cases e), fun _ => rfl⟩⟩
/-- Found out by itself. -/
theorem entA {H H' : List HP} (h : Ent H H' := by (repeat' (first | exact Ent.refl _ | exact Ent.toNil _ | refine Ent.take1 0 rfl ?_ | refine Ent.take1 1 rfl ?_ | refine Ent.take1 2 rfl ?_ | refine Ent.take1 3 rfl ?_ | refine Ent.take1 4 rfl ?_ | refine Ent.take1 5 rfl ?_ | refine Ent.take1 6 rfl ?_ | refine Ent.take1 7 rfl ?_ | refine Ent.take1 8 rfl ?_ | refine Ent.take1 9 rfl ?_ | refine Ent.take1 10 rfl ?_ | refine Ent.take1 11 rfl ?_ | refine Ent.take1 12 rfl ?_ | refine Ent.take1 13 rfl ?_ | refine Ent.take1 14 rfl ?_ | refine (Ent.drop _ _).trans ?_))) : Ent H H' := h
section
variable {P : Program} {f : FuncId} {n : Nat} {R : Ending → World → Prop} {G : Glob} {k : List Item} {L : Lst} {H : List HP} {S : World → Prop} {all : Array Oper} {rest : Pl} {d : Tmp} {ty : TypeId} {pos : String} {af : Array Edge} {gd : Option (Nat × Bool)}
theorem J_callE {fo : Operand} {args : Array Operand} {tys : Array TypeId} {g : FuncId} {cap : Array Value} {vs : List Value} {Pre Fr : List HP} {Post : Value → List HP → Prop} (hd : Nat.blt d n = true)
    (hf : ev L fo = some (.func (.func g) #[] cap)) (hargs : evs L args.toList [] = .mk vs) {avs : List Value} (has : avs = vs ++ cap.toList) (c : Ctr P g avs Pre Post) (he : Ent H (Pre ++ Fr))
    (h : ∀ v H', Post v H' → J P f n R G S all rest k ((d, v) :: L) (H' ++ Fr))
    (hS : ∀ v H' w, Post v H' → Sat G w (H' ++ Fr) → Sx rest S w) :
    J P f n R G S all (.cons false true ⟨some d, .call { callee := .value fo, args := args, argTypes := tys }, ty, pos, af, gd⟩ rest) k L H := by
  intro a w ha hw _
  refine .inl ⟨.inl rfl, .inr ⟨rfl, ?_⟩⟩
  have hr : (execOp a.eval ⟨some d, .call { callee := .value fo, args := args, argTypes := tys }, ty, pos, af, gd⟩).run P w = .ok (.enter g avs.toArray) w := by
    simp only [execOp, resolve, Sem.run_bind, ha.ev hf, Deferred.ofValue, Sem.run_pure, Result.andThen_ok, invoke]
    rw [run_callFunc c.1, evs_arr ha.1 _ _ hargs, has]
    congr 2
    simp
  refine wpIn_call (fun c hc => by cases hc) hr (Calls.mono (c.2 G w Fr (hw.ent he)) ?_)
  rintro e w' ⟨v, H', rfl, hpost, hw'⟩
  exact ⟨v, rfl, hS v H' w' hpost hw', h v H' hpost _ w' (ha.put hd v) hw' (hS v H' w' hpost hw')⟩
theorem J_call0E {fo : Operand} {args : Array Operand} {tys : Array TypeId} {g : FuncId} {cap : Array Value} {vs : List Value} {Pre Fr : List HP} {Post : Value → List HP → Prop}
    (hf : ev L fo = some (.func (.func g) #[] cap)) (hargs : evs L args.toList [] = .mk vs) {avs : List Value} (has : avs = vs ++ cap.toList) (c : Ctr P g avs Pre Post) (he : Ent H (Pre ++ Fr))
    (h : ∀ v H', Post v H' → J P f n R G S all rest k L (H' ++ Fr))
    (hS : ∀ v H' w, Post v H' → Sat G w (H' ++ Fr) → Sx rest S w) :
    J P f n R G S all (.cons false true ⟨none, .call { callee := .value fo, args := args, argTypes := tys }, ty, pos, af, gd⟩ rest) k L H := by
  intro a w ha hw _
  refine .inl ⟨.inl rfl, .inr ⟨rfl, ?_⟩⟩
  have hr : (execOp a.eval ⟨none, .call { callee := .value fo, args := args, argTypes := tys }, ty, pos, af, gd⟩).run P w = .ok (.enter g avs.toArray) w := by
    simp only [execOp, resolve, Sem.run_bind, ha.ev hf, Deferred.ofValue, Sem.run_pure, Result.andThen_ok, invoke]
    rw [run_callFunc c.1, evs_arr ha.1 _ _ hargs, has]
    congr 2
    simp
  refine wpIn_call (fun c hc => by cases hc) hr (Calls.mono (c.2 G w Fr (hw.ent he)) ?_)
  rintro e w' ⟨v, H', rfl, hpost, hw'⟩
  exact ⟨v, rfl, hS v H' w' hpost hw', h v H' hpost _ w' ha hw' (hS v H' w' hpost hw')⟩
/-- Roads that come together: what is left behind them, once. m: how many items of what is left lie ahead of it. -/
theorem K_mid {k0 k' : List Item} {α : Type} (m : Nat) (I : α → Prop) (Lf : α → Lst) (Hf : α → List HP) (hk : advK 1000 (k0.drop m) = .mk k') (tail : ∀ y, I y → K P f n R G k' (Lf y) (Hf y))
    (h : (∀ y, I y → K P f n R G k' (Lf y) (Hf y)) → K P f n R G k0 L H) : K P f n R G k0 L H := h tail
theorem K_to {k0 k' : List Item} {α : Type} {I : α → Prop} {Lf : α → Lst} {Hf : α → List HP} (ih : ∀ y, I y → K P f n R G k' (Lf y) (Hf y)) (y : α) (hk : advK 1000 k0 = .mk k') (hI : I y)
    (hL : ∀ t v, fget (Lf y) t = some v → fget L t = some v) (hH : Ent H (Hf y)) : K P f n R G k0 L H := K_advK 1000 hk (K_sub hL (K_ent hH (ih y hI)))
/-- Cases at code, the roads to it ahead. -/
theorem K_adv1 {k0 k' : List Item} (hk : advK 1000 k0 = .mk k') (h : K P f n R G k' L H) : K P f n R G k0 L H := K_advK 1000 hk h
end
end Go.SL

/- Engine, part Y: functions with first arguments bound; sums of strings; a row without noughts. Nothing here names a program. -/
set_option linter.unusedVariables false
set_option linter.unusedSimpArgs false
namespace Go.SL
open Go
section
variable {P : Program} {U : Tr} [hU : TabOk P U] {f : FuncId} {n : Nat} {R : Ending → World → Prop} {G : Glob} {k : List Item} {L : Lst} {H : List HP} {S : World → Prop} {all : Array Oper} {rest : Pl} {d : Tmp} {ty : TypeId} {pos : String} {af : Array Edge} {gd : Option (Nat × Bool)} {m : Bool}
/-- A call of a function value with its first arguments bound. -/
theorem J_callF {fo : Operand} {args : Array Operand} {tys : Array TypeId} {g : FuncId} {fi cap : Array Value} {vs : List Value} {Pre Fr : List HP} {Post : Value → List HP → Prop} (hd : Nat.blt d n = true)
    (hf : ev L fo = some (.func (.func g) fi cap)) (hargs : evs L args.toList [] = .mk vs) {avs : List Value} (has : avs = fi.toList ++ vs ++ cap.toList) (c : Ctr P g avs Pre Post) (he : Ent H (Pre ++ Fr))
    (h : ∀ v H', Post v H' → J P f n R G S all rest k ((d, v) :: L) (H' ++ Fr))
    (hS : ∀ v H' w, Post v H' → Sat G w (H' ++ Fr) → Sx rest S w) :
    J P f n R G S all (.cons false true ⟨some d, .call { callee := .value fo, args := args, argTypes := tys }, ty, pos, af, gd⟩ rest) k L H := by
  intro a w ha hw _
  refine .inl ⟨.inl rfl, .inr ⟨rfl, ?_⟩⟩
  have hr : (execOp a.eval ⟨some d, .call { callee := .value fo, args := args, argTypes := tys }, ty, pos, af, gd⟩).run P w = .ok (.enter g avs.toArray) w := by
    simp only [execOp, resolve, Sem.run_bind, ha.ev hf, Deferred.ofValue, Sem.run_pure, Result.andThen_ok, invoke]
    rw [run_callFunc c.1, evs_arr ha.1 _ _ hargs, has]
    congr 2
    apply Array.ext'
    simp
  refine wpIn_call (fun c hc => by cases hc) hr (Calls.mono (c.2 G w Fr (hw.ent he)) ?_)
  rintro e w' ⟨v, H', rfl, hpost, hw'⟩
  exact ⟨v, rfl, hS v H' w' hpost hw', h v H' hpost _ w' (ha.put hd v) hw' (hS v H' w' hpost hw')⟩
theorem J_strAdd {t yt : TypeId} {x y : Operand} {p q : ByteArray} (hd : Nat.blt d n = true) (hx : ev L x = some (.string p)) (hy : ev L y = some (.string q)) (hr : p.size + q.size ≤ 9223372036854775807)
    (h : J P f n R G S all rest k ((d, .string (p ++ q)) :: L) H) : J P f n R G S all (.cons m true ⟨some d, .binOp .add t x y yt, ty, pos, af, gd⟩ rest) k L H :=
  J_pure hd (fun a ha w => by
    have h0 : ¬ (((p.size + q.size : Nat) : Int) > IntKind.i64.max) := by have : IntKind.i64.max = 9223372036854775807 := by decide
                                                                          omega
    simp only [execOp, ha.ev hx, ha.ev hy, eqGuard, Sem.run_bind, Sem.run_pure, Result.andThen_ok, binOp_string_add, Op.stringOp]
    rw [if_neg h0]
    rfl) h
/-- bytealg.MakeNoZero: a row of whatever cells. -/
theorem J_makeNoZero {g : FuncId} {fn : Func} {args : Array Operand} {tys : Array TypeId} {t elem : TypeId} {ty' : Ty} {q : Nat} (hd : Nat.blt d n = true)
    (hf : P.funcs[g]? = some fn) (hb : fn.body = none) (hn : (fn.name == "runtime.NumGoroutine") = false) (hnx : (Extern.findNext fn).isNone = true) (he : Extern.find fn = some (Extern.BytealgMakeNoZero.makeNoZero fn.params #[t]))
    (ht : U.get t = some ty') (hu : ty'.und = .slice elem)
    (hargs : evs L args.toList [] = .mk [.int .i64 (q : Int)]) (hq : q ≤ 281474976710656)
    (hS : ∀ b l w, Sat G w (pts b (cl l elem) :: H) → Sx rest S w)
    (h : ∀ b c l, q ≤ c → List.length l = c → J P f n R G S all rest k ((d, .slice (some ⟨b, 0, none⟩) q c) :: L) (pts b (cl l elem) :: H)) :
    J P f n R G S all (.cons false true ⟨some d, .call { callee := .value (.func g), args := args, argTypes := tys }, ty, pos, af, gd⟩ rest) k L H := by
  refine J_act hd (fun u H1 => ∃ b c l, (q ≤ c ∧ List.length l = c) ∧ u = .slice (some ⟨b, 0, none⟩) q c ∧ H1 = pts b (cl l elem) :: H) (fun a w ha hw => ?_) ?_ ?_
  · have hav := evs_arr ha _ _ hargs
    obtain ⟨cs, hr, h1, _⟩ := Lib.run_makeNoZero (P := P) w fn.params t elem (by rw [← hu]; exact und_of ht) q hq
    have hw2 : Sat G w.drew.drew H := (hw.draw _).draw _
    refine ⟨_, w.drew.drew.alloc (.cells cs elem), _, ?_, ⟨w.heap.size, cs.size, cs.toList, ⟨h1, by simp⟩, rfl, rfl⟩, ?_⟩
    · simp only [execOp, resolve, Sem.run_bind, Act.eval, Deferred.ofValue, Sem.run_pure, Result.andThen_ok, invoke]
      rw [show Array.map (fun x => a.eval x) args = #[.int .i64 (q : Int)] from hav]
      simp only [Array.empty_append, Array.append_empty]
      rw [run_extern hf hb hn hnx he, hr]
      rfl
    · have := hw2.alloc (cl cs.toList elem)
      have e : cl cs.toList elem = .cells cs elem := by simp [cl]
      rw [e] at this ⊢
      exact this
  · rintro u H1 w ⟨b, c, l, _, rfl, rfl⟩ hw; exact hS b l w hw
  · rintro u H1 ⟨b, c, l, ⟨h1, h2⟩, rfl, rfl⟩; exact h b c l h1 h2
/-- 's[:q:r]'. -/
theorem J_slice3n {t elem : TypeId} {ty' te : Ty} {x hi mx : Operand} {a0 : Option Addr} {len cap : Nat} {q r : Int} {j2 j3 : IntKind} (hd : Nat.blt d n = true)
    (ht : U.get t = some ty') (hu : ty'.und = .slice elem) (he : U.get elem = some te) (hx : ev L x = some (.slice a0 len cap)) (hhi : ev L hi = some (.int j2 q)) (hmx : ev L mx = some (.int j3 r)) (h0 : 0 ≤ q) (hqr : q ≤ r) (hrc : r ≤ (cap : Int))
    (h : J P f n R G S all rest k ((d, .slice (sliceAt a0 r.toNat 0 te.info.size) q.toNat r.toNat) :: L) H) :
    J P f n R G S all (.cons m true ⟨some d, .slice t x none (some hi) (some mx), ty, pos, af, gd⟩ rest) k L H := by
  refine J_pure hd (fun a ha w => ?_) h
  have hb : (Instr.sliceBounds true len cap none (some (a.eval hi)) (some (a.eval mx))).run P w = .ok (0, q.toNat, r.toNat) w := by
    unfold Instr.sliceBounds
    have e1 : 0 ≤ r ∧ r ≤ (cap : Int) := ⟨by omega, hrc⟩
    have e2 : 0 ≤ q ∧ q ≤ ((r.toNat : Nat) : Int) := ⟨by omega, by omega⟩
    have e4 : q ≤ max r 0 := by omega
    simp [ha.ev hhi, ha.ev hmx, Instr.sliceBound, asIntOf, e1, e2, e4, h0]
  simp only [execOp, ha.ev hx, Instr.sliceAt, Sem.run_bind, run_underlying ht, Result.andThen_ok, hu, Instr.slice, Option.map_some, Option.map_none, hb, run_sizeOf he, Sem.run_pure, sliceAt]
  by_cases hc : (0 : Nat) = r.toNat
  · simp [← hc]
  · simp [hc]
    intro hr0
    exfalso; omega
end
end Go.SL

/- Engine, part X: ranges over functions: the loop's record, its rounds, calls of yield, the statement. Nothing here names a program. -/
set_option linter.unusedVariables false
set_option linter.unusedSimpArgs false
namespace Go.SL
open Go

/-- The record of a loop of an activation whose slots are as told. -/
def loopP (l : Nat) (st : LoopState) (pd : Option Code) (f : FuncId) (n : Nat) (L : Lst) (ps : Array Tmp) (assign body : Code) (r : Nat) : HP := fun h =>
  ∃ tmps : Array Value, (tmps.size = n ∧ ∀ t v, fget L t = some v → tmps[t]? = some v) ∧ pts l (.loop { state := st, pending := pd, fn := f, tmps := tmps, params := ps, assign := assign, body := body, defers := r }) h

/-- What a call of yield does: a round, behind which there is what Post says, and whatever else stood. -/
def CtrY (P : Program) (l : Nat) (args : List Value) (Pre : List HP) (Post : Value → List HP → Prop) : Prop :=
  ∀ G w F, Sat G w (Pre ++ F) → ∃ fn tmps assign body, (Instr.yield l args.toArray).run P w = .ok (.round l fn tmps assign body) w ∧
    ∀ ro, RoundIn (fw ro) 0 P l fn tmps assign body w fun e w' => ∃ v H, e = .returned v ∧ Post v H ∧ Sat G w' (H ++ F)

def putL : List Nat → List Value → Lst → Lst
  | p :: ps, v :: vs, L => putL ps vs ((p, v) :: L)
  | _, _, L => L
def inB (n : Nat) : List Nat → Bool
  | [] => true
  | p :: ps => Nat.blt p n && inB n ps

theorem has_put {n : Nat} : ∀ (ps : List Nat) (vs : List Value) (L : Lst) (tmps : Array Value), inB n ps = true → tmps.size = n → (∀ t v, fget L t = some v → tmps[t]? = some v) →
    Has n (putL ps vs L) { tmps := (ps.zip vs).foldl (fun tmps (x : Nat × Value) => tmps.setIfInBounds x.1 x.2) tmps, defers := [] }
  | [], vs, L, tmps, _, hs, hg => ⟨hs, trivial, hg⟩
  | p :: ps, [], L, tmps, _, hs, hg => ⟨by simpa using hs, trivial, by simpa [putL] using hg⟩
  | p :: ps, v :: vs, L, tmps, hb, hs, hg => by
    simp only [inB, Bool.and_eq_true] at hb
    have h1 : Has n L { tmps := tmps, defers := [] } := ⟨hs, trivial, hg⟩
    have h2 := h1.put hb.1 v
    exact has_put ps vs _ _ hb.2 h2.1 h2.2.2

/-- What is owed at a round's end. -/
def EndsY (R : Ending → World → Prop) (G : Glob) (l : Nat) (F : List HP) (Post : Value → List HP → Prop) : Prop :=
  (G.ro = some l ∧ G.ds = []) ∧ ∀ v H w, Post v H → Sat G w (H ++ F) → R (.returned v) w

section
variable {P : Program} {f : FuncId} {n : Nat} {R : Ending → World → Prop} {G : Glob} {k : List Item} {L : Lst} {H : List HP} {l r : Nat} {st : LoopState} {pd : Option Code} {n0 : Nat} {f0 : FuncId} {L0 : Lst} {ps : Array Tmp} {assign body : Code}

theorem loopP_get {w : World} (hs : Sat G w (loopP l st pd f0 n0 L0 ps assign body r :: H)) : ∃ tmps : Array Value, (tmps.size = n0 ∧ ∀ t v, fget L0 t = some v → tmps[t]? = some v) ∧ Sat G w (pts l (.loop { state := st, pending := pd, fn := f0, tmps := tmps, params := ps, assign := assign, body := body, defers := r }) :: H) := by
  obtain ⟨t, o, u, hp, hpw, h1, h2, ⟨tmps, ht, hA⟩, hH, hd, he⟩ := hs
  exact ⟨tmps, ht, t, o, u, hp, hpw, h1, h2, hA, hH, hd, he⟩
theorem loopP_put {tmps : Array Value} (ht : tmps.size = n0 ∧ ∀ t v, fget L0 t = some v → tmps[t]? = some v) : Ent (pts l (.loop { state := st, pending := pd, fn := f0, tmps := tmps, params := ps, assign := assign, body := body, defers := r }) :: H) (loopP l st pd f0 n0 L0 ps assign body r :: H) :=
  fun h hs => ⟨h, sub.refl h, star_mono (fun h hp => ⟨tmps, ht, hp⟩) (fun _ h => h) hs⟩

/-- A round out of the walk of its body. -/
theorem CtrY.of_K {args : List Value} {Pre : List HP} {Post : Value → List HP → Prop} (hps : Nat.beq ps.toList.length args.length = true) (hin : inB n0 ps.toList = true)
    (h : ∀ G F R, EndsY R G l F Post → K P f0 n0 R G [.code assign, .beginRound, .code body] (putL ps.toList args L0) (loopP l .ready none f0 n0 L0 ps assign body r :: (Pre ++ F))) :
    CtrY P l args (loopP l .ready none f0 n0 L0 ps assign body r :: Pre) Post := by
  intro G w F hw
  obtain ⟨tmps, ht, hw1⟩ := loopP_get (H := Pre ++ F) hw
  have hg := hw1.get (i := 0) rfl
  have hsz : args.toArray.size = ps.size := by have := Nat.eq_of_beq_eq_true hps; simpa using this.symm
  refine ⟨_, _, _, _, run_yield hg hsz, fun ro => ⟨trivial, fun c cs _ => ?_⟩⟩
  have hk := h { G with ro := some l, ds := [] } F (fun e w' => ∃ v H, e = .returned v ∧ Post v H ∧ Sat G w' (H ++ F)) ⟨⟨rfl, rfl⟩, fun v H w' hp hs => ⟨v, H, rfl, hp, hs⟩⟩
  have hz : (ps.zip args.toArray).foldl (fun (tmps : Array Value) (x : Tmp × Value) => tmps.setIfInBounds x.1 x.2) tmps = (ps.toList.zip args).foldl (fun tmps (x : Nat × Value) => tmps.setIfInBounds x.1 x.2) tmps := by
    rw [← Array.foldl_toList, Array.toList_zip]
  have ha : HasG { G with ro := some l, ds := [] } n0 (putL ps.toList args L0) { tmps := (ps.zip args.toArray).foldl (fun (tmps : Array Value) (x : Tmp × Value) => tmps.setIfInBounds x.1 x.2) tmps, defers := [] } := ⟨by rw [hz]; exact has_put ps.toList args L0 tmps hin ht.1 ht.2, rfl⟩
  obtain ⟨v, w', ⟨v', H', he, hp, hs⟩, hst⟩ := hk _ w ha (hw1.ent (loopP_put ht)) (c :: cs) c cs rfl
  cases he
  exact ⟨.returned v, w', ⟨v, H', rfl, hp, hs⟩, (StepsIn.of_steps hst).mono fun m _ => fenced_fw P ro m⟩

theorem K_beginRound {k0 : List Item} (hk : advK 1000 k0 = .mk (.beginRound :: k)) {F : List HP} {Post : Value → List HP → Prop} (hR : EndsY R G l F Post)
    (h : K P f n R G k L (loopP l .busy pd f0 n0 L0 ps assign body r :: H)) : K P f n R G k0 L (loopP l .ready pd f0 n0 L0 ps assign body r :: H) := by
  refine K_advK 1000 hk ?_
  intro a w ha hw cs
  obtain ⟨tmps, ht, hw1⟩ := loopP_get hw
  have hg := hw1.get (i := 0) rfl
  have hb := run_beginRound (P := P) hg rfl
  have hw2 := (hw1.set0 (o' := .loop { state := .busy, pending := pd, fn := f0, tmps := tmps, params := ps, assign := assign, body := body, defers := r })).ent (loopP_put ht)
  exact (h a _ ha hw2 cs).of_steps (.one (stepR_beginRound (b := ({ (default : Frame) with fn := f, kind := .normal, roundOf := G.ro } : Frame)) hR.1.1 hb))
theorem round_end {a : Act} {w w' : World} {k1 : List Item} {cs : List Frame} {v : Value} (hro : G.ro = some l) (hR : R (.returned v) w') (hs : ∀ c cs', step P (lone (bf G.ro f a k1) (c :: cs') w) = .next (lone (c.finish v) cs' w')) : Owed P f R cs (lone (bf G.ro f a k1) cs w) G.ro := by
  rw [hro] at hs ⊢
  intro c cs' hcs
  subst hcs
  exact ⟨v, w', hR, .one (hs c cs')⟩
theorem endRound_sat {w : World} (jump : Option Code) (hw : Sat G w (loopP l st pd f0 n0 L0 ps assign body r :: H)) : ∃ w', (Instr.endRound l jump).run P w = .ok (.bool jump.isNone) w' ∧ Sat G w' (loopP l (if jump.isNone then .ready else .done) jump f0 n0 L0 ps assign body r :: H) := by
  obtain ⟨tmps, ht, hw1⟩ := loopP_get hw
  have hg := hw1.get (i := 0) rfl
  exact ⟨_, run_endRound (P := P) jump hg, (hw1.set0 (o' := .loop { state := if jump.isNone then .ready else .done, pending := jump, fn := f0, tmps := tmps, params := ps, assign := assign, body := body, defers := r })).ent (loopP_put ht)⟩
/-- The end of a round: off its end; by a return; by a jump out of it. -/
theorem K_roundEnd {k0 : List Item} {F Hq : List HP} {Post : Value → List HP → Prop} (hR : EndsY R G l F Post) (hk : advK 1000 k0 = .mk []) (he : Ent H (loopP l st pd f0 n0 L0 ps assign body r :: (Hq ++ F)))
    (hp : Post (.bool true) (loopP l .ready none f0 n0 L0 ps assign body r :: Hq)) : K P f n R G k0 L H := by
  refine K_advK 1000 hk ?_
  intro a w ha hw cs
  obtain ⟨w', h1, h2⟩ := endRound_sat (P := P) none (hw.ent he)
  exact round_end hR.1.1 (hR.2 _ _ w' hp h2) fun c cs' => stepR_round_end (b := ({ (default : Frame) with fn := f, kind := .normal, roundOf := G.ro } : Frame)) hR.1.1 rfl h1
theorem K_roundRet {k0 : List Item} {F Hq : List HP} {Post : Value → List HP → Prop} (hR : EndsY R G l F Post) (hk : advK 1000 k0 = .mk (.code .ret :: k)) (he : Ent H (loopP l st pd f0 n0 L0 ps assign body r :: (Hq ++ F)))
    (hp : Post (.bool false) (loopP l .done (some .ret) f0 n0 L0 ps assign body r :: Hq)) : K P f n R G k0 L H := by
  refine K_advK 1000 hk ?_
  intro a w ha hw cs
  obtain ⟨w', h1, h2⟩ := endRound_sat (P := P) (some .ret) (hw.ent he)
  exact round_end hR.1.1 (hR.2 _ _ w' hp h2) fun c cs' => stepR_round_ret (b := ({ (default : Frame) with fn := f, kind := .normal, roundOf := G.ro } : Frame)) hR.1.1 rfl h1
theorem K_roundExit {k0 : List Item} {id : Nat} {F Hq : List HP} {Post : Value → List HP → Prop} (hR : EndsY R G l F Post) (hk : advK 1000 k0 = .mk (.code (.exit id) :: k)) (hx : exitTo id k = none) (he : Ent H (loopP l st pd f0 n0 L0 ps assign body r :: (Hq ++ F)))
    (hp : Post (.bool false) (loopP l .done (some (.exit id)) f0 n0 L0 ps assign body r :: Hq)) : K P f n R G k0 L H := by
  refine K_advK 1000 hk ?_
  intro a w ha hw cs
  obtain ⟨w', h1, h2⟩ := endRound_sat (P := P) (some (.exit id)) (hw.ent he)
  exact round_end hR.1.1 (hR.2 _ _ w' hp h2) fun c cs' => stepR_round_exit (b := ({ (default : Frame) with fn := f, kind := .normal, roundOf := G.ro } : Frame)) hR.1.1 rfl hx h1

/-- The statement, at an outermost loop: the function that is ranged over, by its contract for whatever loop. -/
theorem K_range {k0 : List Item} {g : Operand} {gid : FuncId} {cap : Array Value} {Pre : Nat → Nat → List HP} {Fr : List HP} {Post : Nat → Nat → Value → List HP → Prop} (hk : advK 1000 k0 = .mk (.code (.rangeFunc g ps assign body) :: k)) (hro : G.ro = none)
    (hg : ev L g = some (.func (.func gid) #[] cap))
    (c : ∀ l r, Ctr P gid (.func (.yield l) #[] #[] :: cap.toList) (loopP l .ready none f n L ps assign body r :: Pre l r) (Post l r)) (he : ∀ l r, Ent H (Pre l r ++ Fr))
    (hend : ∀ l r v H', Post l r v H' → ∃ st pd H'', H' = loopP l st pd f n L ps assign body r :: H'' ∧ st ≠ .busy ∧
      K P f n R { G with ds := r :: G.ds } ((pd.map Item.code).toList ++ k) L (H'' ++ (pts r (.deferred (some [])) :: Fr))) : K P f n R G k0 L H := by
  refine K_advK 1000 hk ?_
  intro a w ha hw cs
  let b : Frame := { (default : Frame) with fn := f, kind := .normal, roundOf := G.ro }
  have hen := run_enterLoop_outer (P := P) (w := w) f a.tmps ps assign body
  rw [← hro] at hen
  have hw1 : Sat G ((w.alloc (.deferred (some []))).alloc (.loop { state := .ready, pending := none, fn := f, tmps := a.tmps, params := ps, assign, body, defers := w.heap.size }))
      (loopP (w.heap.size + 1) .ready none f n L ps assign body w.heap.size :: (Pre (w.heap.size + 1) w.heap.size ++ (pts w.heap.size (.deferred (some [])) :: Fr))) := by
    have h1 := hw.alloc (.deferred (some []))
    have h2 := h1.alloc (.loop { state := .ready, pending := none, fn := f, tmps := a.tmps, params := ps, assign := assign, body := body, defers := w.heap.size })
    have hsz : ({ w with heap := w.heap.push (.deferred (some [])) } : World).heap.size = w.heap.size + 1 := by simp
    rw [hsz] at h2
    refine Sat.ent h2 ?_
    refine (loopP_put ⟨ha.1.1, ha.1.2.2⟩).trans (Ent.cons _ ?_)
    refine (Ent.cons _ (he (w.heap.size + 1) w.heap.size)).trans ?_
    exact Ent.perm (List.perm_middle.symm)
  have hres : (resolve a.eval (rangeCall g (w.heap.size + 1)) 0).run P ((w.alloc (.deferred (some []))).alloc (.loop { state := .ready, pending := none, fn := f, tmps := a.tmps, params := ps, assign, body, defers := w.heap.size })) = .ok { target := .fn (.func gid) cap, args := #[.func (.yield (w.heap.size + 1)) #[] #[]] } ((w.alloc (.deferred (some []))).alloc (.loop { state := .ready, pending := none, fn := f, tmps := a.tmps, params := ps, assign, body, defers := w.heap.size })) := by
    simp only [resolve, rangeCall, Sem.run_bind, ha.ev hg, Deferred.ofValue, Sem.run_pure, Result.andThen_ok]
    simp [Act.eval]
  have hinv : (invoke (.fn (.func gid) cap) #[.func (.yield (w.heap.size + 1)) #[] #[]]).run P ((w.alloc (.deferred (some []))).alloc (.loop { state := .ready, pending := none, fn := f, tmps := a.tmps, params := ps, assign, body, defers := w.heap.size })) = .ok (.enter gid (Value.func (.yield (w.heap.size + 1)) #[] #[] :: cap.toList).toArray) ((w.alloc (.deferred (some []))).alloc (.loop { state := .ready, pending := none, fn := f, tmps := a.tmps, params := ps, assign, body, defers := w.heap.size })) := by
    simp only [invoke]
    rw [run_callFunc (c (w.heap.size + 1) w.heap.size).1]
    congr 2
    apply Array.ext'; simp
  have henter := stepR_rangeFunc (P := P) (b := b) (a := a) (k := k) (cs := cs) (w := w) (ps := ps) (assign := assign) (body := body) (g := g) hen hres hinv
  obtain ⟨e, w3, fr, ⟨v, H', rfl, hpost, hs3⟩, hcomes, hfn, hleave⟩ := (c (w.heap.size + 1) w.heap.size).2 G _ (pts w.heap.size (.deferred (some [])) :: Fr) hw1 (b.atR { a with defers := [{ target := .collected w.heap.size, args := #[] }] ++ a.defers } (.inRangeFunc (w.heap.size + 1) :: k) :: cs)
  obtain ⟨st, pd, H'', rfl, hst, hK⟩ := hend _ _ _ _ hpost
  obtain ⟨tmps, ht, hs4⟩ := loopP_get (H := H'' ++ (pts w.heap.size (.deferred (some [])) :: Fr)) hs3
  have hg4 := hs4.get (i := 0) rfl
  have hend4 := run_endLoop (P := P) hg4 hst
  have hs5 := (hs4.set0 (o' := .loop { state := .exhausted, pending := pd, fn := f, tmps := tmps, params := ps, assign := assign, body := body, defers := w.heap.size })).ent (Ent.drop _ _)
  have hback : step P (lone fr (b.atR { a with defers := [{ target := .collected w.heap.size, args := #[] }] ++ a.defers } (.inRangeFunc (w.heap.size + 1) :: k) :: cs) w3) = .next (lone (b.atR { a with defers := [{ target := .collected w.heap.size, args := #[] }] ++ a.defers } (.endRangeFunc (w.heap.size + 1) :: k)) cs w3) := by
    rw [← finish_atR_inRangeFunc (w.heap.size + 1) v]; exact step_leave_returned hleave
  have hlast := stepR_endRangeFunc (P := P) (b := b) (a := { a with defers := [{ target := .collected w.heap.size, args := #[] }] ++ a.defers }) (k := k) (cs := cs) hend4
  have hok := hK { a with defers := [{ target := .collected w.heap.size, args := #[] }] ++ a.defers } _ ⟨⟨ha.1.1, trivial, ha.1.2.2⟩, by rw [show ({ G with ds := w.heap.size :: G.ds } : Glob).ds = w.heap.size :: G.ds from rfl, List.map_cons, ha.2]; rfl⟩ hs5 cs
  exact Owed.of_steps (Steps.trans (.one henter) (Steps.trans hcomes (Steps.trans (.one hback) (.one hlast)))) hok

variable {S : World → Prop} {all : Array Oper} {rest : Pl} {d : Tmp} {ty : TypeId} {pos : String} {af : Array Edge} {gd : Option (Nat × Bool)}
/-- A call of yield. -/
theorem J_yield {fo : Operand} {args : Array Operand} {tys : Array TypeId} {vs : List Value} {Pre Fr : List HP} {Post : Value → List HP → Prop} (hd : Nat.blt d n = true)
    (hf : ev L fo = some (.func (.yield l) #[] #[])) (hargs : evs L args.toList [] = .mk vs) (c : CtrY P l vs Pre Post) (he : Ent H (Pre ++ Fr))
    (h : ∀ v H', Post v H' → J P f n R G S all rest k ((d, v) :: L) (H' ++ Fr))
    (hS : ∀ v H' w, Post v H' → Sat G w (H' ++ Fr) → Sx rest S w) :
    J P f n R G S all (.cons false true ⟨some d, .call { callee := .value fo, args := args, argTypes := tys }, ty, pos, af, gd⟩ rest) k L H := by
  intro a w ha hw _
  refine .inl ⟨.inl rfl, .inr ⟨rfl, ?_⟩⟩
  obtain ⟨fn, tmps, asg, bdy, hy, hr⟩ := c G w Fr (hw.ent he)
  have hr1 : (execOp a.eval ⟨some d, .call { callee := .value fo, args := args, argTypes := tys }, ty, pos, af, gd⟩).run P w = .ok (.round l fn tmps asg bdy) w := by
    simp only [execOp, resolve, Sem.run_bind, ha.ev hf, Deferred.ofValue, Sem.run_pure, Result.andThen_ok, invoke]
    rw [evs_arr ha.1 _ _ hargs]
    simpa using hy
  refine wpIn_other (fun c hc => by cases hc) hr1 ⟨fun h => by simp [fw] at h, RoundIn.mono (hr G.ro) ?_⟩
  rintro e w' ⟨v, H', rfl, hpost, hw'⟩
  exact ⟨hS v H' w' hpost hw', h v H' hpost _ w' (ha.put hd v) hw' (hS v H' w' hpost hw')⟩
end
end Go.SL

/- Engine, part N: append in place and anew, over rows that are told; cap; a slice with a third bound; slices.overlaps. Nothing here names a program. -/
set_option linter.unusedVariables false
set_option linter.unusedSimpArgs false
namespace Go.SL
section
variable {P : Program} {U : Tr} [hU : TabOk P U] {f : FuncId} {n : Nat} {R : Ending → World → Prop} {G : Glob} {k : List Item} {L : Lst} {H H' : List HP} {S : World → Prop} {all : Array Oper} {rest : Pl}
  {ty : TypeId} {pos : String} {af : Array Edge} {gd : Option (Nat × Bool)} {m : Bool} {d : Tmp}
theorem run_appendIn {t t2 elem rty : TypeId} {ty' t2' te : Ty} {v2 : Value} {b o kk cap mm : Nat} {l news l' : List Value} {e : TypeId} {A : HP} {w : World} (i j : Nat)
    (ht : U.get t = some ty') (hu : ty'.und = .slice elem) (h2 : U.get t2 = some t2') (h2n : ∀ q, t2'.und ≠ .int q) (he : U.get elem = some te) (hw : Sat G w H)
    (hi : getL H i = some (pts b (cl l e))) (hj : getL H j = some A) (hv2 : Vw A v2 mm news) (hl2 : news.length = mm * te.info.size) (hone : ∀ u ∈ news, u.oneCell' = true) (hroom : kk + mm ≤ cap)
    (hfit : o + (kk + mm) * te.info.size ≤ l.length) (hl' : l' = l.take (o + kk * te.info.size) ++ news ++ l.drop (o + (kk + mm) * te.info.size)) :
    (Builtin.append_ #[t, t2] rty #[.slice (some ⟨b, o, none⟩) kk cap, v2]).run P w = .ok (.slice (some ⟨b, o, none⟩) (kk + mm) cap) { w with heap := w.heap.setIfInBounds b (cl l' e) } := by
  have hf := run_first (P := P) hv2 hw hj hl2
  have hnz : (t2'.und matches .int _) = false := by
    cases hq : t2'.und <;> first | rfl | exact absurd hq (h2n _)
  have hzeros : ∀ {w : World}, (underlying t2).run P w = .ok t2'.und w := fun {w} => run_underlying h2 w
  obtain ⟨a2, c2, hv', _⟩ := hv2
  subst hv'
  have hst := run_storeCells (P := P) news 0 (o + kk * te.info.size) l w (hw.getP hi) (by rw [hl2]; rw [Nat.add_mul] at hfit; omega) hone
  have e1 : o + kk * te.info.size + news.length = o + (kk + mm) * te.info.size := by rw [hl2, Nat.add_mul]; omega
  simp only [Nat.add_zero, e1, ← hl'] at hst
  simp [Builtin.append_, run_underlying ht, hu, run_sizeOf he, hzeros, hnz, Builtin.lenOf, hroom, hf, Addr.add_eq, hst]
/-- append where there is room: into the row itself; what is put there may lie in the same row. -/
theorem J_appendIn {x y : Operand} {t t2 elem : TypeId} {ty' t2' te : Ty} {v2 : Value} {b o kk cap mm : Nat} {l news l' : List Value} {e : TypeId} {A : HP} (i j : Nat) (hd : Nat.blt d n = true)
    (hx : ev L x = some (.slice (some ⟨b, o, none⟩) kk cap)) (hy : ev L y = some v2) (ht : U.get t = some ty') (hu : ty'.und = .slice elem) (h2 : U.get t2 = some t2') (h2n : (match t2'.und with | .int _ => false | _ => true) = true) (he : U.get elem = some te)
    (hi : getL H i = some (pts b (cl l e))) (hj : getL H j = some A) (hv2 : Vw A v2 mm news) (hl2 : news.length = mm * te.info.size) (hone : ∀ u ∈ news, u.oneCell' = true) (hroom : kk + mm ≤ cap)
    (hfit : o + (kk + mm) * te.info.size ≤ l.length) (hl' : l' = l.take (o + kk * te.info.size) ++ news ++ l.drop (o + (kk + mm) * te.info.size)) (hp : putP i (pts b (cl l' e)) H [] = .mk H')
    (hS : ∀ w, Sat G w H' → Sx rest S w)
    (h : J P f n R G S all rest k ((d, .slice (some ⟨b, o, none⟩) (kk + mm) cap) :: L) H') :
    J P f n R G S all (.cons false true ⟨some d, .call { callee := .builtin .append, args := #[x, y], argTypes := #[t, t2] }, ty, pos, af, gd⟩ rest) k L H := by
  refine J_act hd (fun u H1 => u = .slice (some ⟨b, o, none⟩) (kk + mm) cap ∧ H1 = H') (fun a w ha hw => ?_) ?_ ?_
  · have hr := run_appendIn (P := P) (rty := ty) i j ht hu h2 (fun q e => by rw [e] at h2n; cases h2n) he hw hi hj hv2 hl2 hone hroom hfit hl'
    refine ⟨_, _, H', ?_, ⟨rfl, rfl⟩, hw.put hi hp⟩
    simp [execOp, resolve, invoke, builtin, ha.ev hx, ha.ev hy, hr]
  · rintro u H1 w ⟨rfl, rfl⟩ hw; exact hS w hw
  · rintro u H1 ⟨rfl, rfl⟩; exact h
theorem zeroCells_list (z : Value) (q : Nat) : (Builtin.zeroCells z.cells q).toList = (List.replicate q (cellsL z)).flatten := by
  have hcs : z.cells.size = (cellsL z).length := by rw [cellsL_eq]; simp
  unfold Builtin.zeroCells
  simp only [Array.toList_map, Array.toList_range, hcs]
  rw [cellsL_eq]
  induction q with
  | zero => simp
  | succ q ih =>
    rw [List.replicate_succ', List.flatten_append, ← ih, Nat.succ_mul, List.range_add, List.map_append]
    congr 1
    simp only [List.map_map, List.flatten_cons, List.flatten_nil, List.append_nil]
    apply List.ext_getElem?
    intro j
    by_cases hj : j < (cellsL z).length
    · simp only [List.getElem?_map, List.getElem?_range hj, Option.map_some, Function.comp]
      rw [Nat.mul_comm, Nat.mul_add_mod, Nat.mod_eq_of_lt hj]
      simp [hj]
    · rw [List.getElem?_eq_none (by simp; omega), List.getElem?_eq_none (by omega)]
theorem run_appendZ {t t2 elem rty : TypeId} {ty' t2' te : Ty} {z : Value} {a0 : Option Addr} {kk cap mm : Nat} {q : IntKind} {cs : List Value} {A : HP} {w : World} (i : Nat)
    (ht : U.get t = some ty') (hu : ty'.und = .slice elem) (h2 : U.get t2 = some t2') (h2n : t2'.und = .int q) (he : U.get elem = some te) (hz : te.info.zero = some z) (hzs : (cellsL z).length = te.info.size) (hsz : 0 < te.info.size) (hw : Sat G w H)
    (hi : getL H i = some A) (hv : Vw A (.slice a0 kk cap) kk cs) (hl : cs.length = kk * te.info.size) (hgt : cap < kk + mm) (hm0 : 0 < mm)
    (hmax : kk + mm ≤ 9223372036854775807) (hmm : mm * te.info.bytes ≤ 140737488355328) (hbytes : (kk + mm) * te.info.bytes ≤ 140737488355328) :
    (Builtin.append_ #[t, t2] rty #[.slice a0 kk cap, .int .i64 (mm : Int)]).run P w = .ok (.slice (some ⟨w.heap.size, 0, none⟩) (kk + mm) (grownCap w (kk + mm) cap elem))
      (w.drew.alloc (cl (cs ++ (List.replicate mm (cellsL z)).flatten ++ (Builtin.zeroCells z.cells (grownCap w (kk + mm) cap elem - (kk + mm))).toList) elem)) := by
  have hzeros : ∀ {w : World}, (underlying t2).run P w = .ok t2'.und w := fun {w} => run_underlying h2 w
  have hnz : (t2'.und matches .int _) = true := by rw [h2n]
  have hgt' : ¬ kk + mm ≤ cap := by omega
  have hgs := growslice_fits (need := kk + mm) (old := cap) (bytes := te.info.bytes) (by omega) hbytes
  have hl1 := run_first (P := P) (G := G) (w := w.drew) hv (hw.draw _) hi hl
  have hnomax : ¬ ((9223372036854775807 : Int) < (kk : Int) + (mm : Int)) := by omega
  have hgs' : ¬ 281474976710656 < Builtin.nextslicecap (kk + mm) cap * te.info.bytes := by omega
  have hwr : IntKind.i64.wrap (mm : Int) = mm := wrap_in (by simp only [inK]; omega)
  have hneg : ¬ ((mm : Int) < 0) := by omega
  have hb2 : ¬ ((281474976710656 : Int) < (mm : Int) * (te.info.bytes : Int)) := by
    have : ((mm * te.info.bytes : Nat) : Int) ≤ 140737488355328 := by omega
    rw [Int.natCast_mul] at this; omega
  have hne : ¬ (mm * te.info.size = 0) := Nat.ne_of_gt (Nat.mul_pos hm0 hsz)
  have hzc := zeroCells_list z mm
  simp [Builtin.append_, run_underlying ht, hu, run_sizeOf he, hzeros, hnz, asInt, asIntOf, hwr, hneg, hb2, hgt', hnomax, hgs', Question.forced, run_typeInfo he, run_zeroValue he hz, newRow, hl1, grownCap, cl, hne, h2n]
  congr 2
  apply Array.ext'
  simp [hzc]
/-- append of so many zeros where there is no room: a new row, the old one stays. -/
theorem J_appendZ {x y : Operand} {t t2 elem : TypeId} {ty' t2' te : Ty} {z : Value} {a0 : Option Addr} {kk cap mm : Nat} {q : IntKind} {cs : List Value} {A : HP} (i : Nat) (hd : Nat.blt d n = true)
    (hx : ev L x = some (.slice a0 kk cap)) (hy : ev L y = some (.int .i64 (mm : Int))) (ht : U.get t = some ty') (hu : ty'.und = .slice elem) (h2 : U.get t2 = some t2') (h2n : t2'.und = .int q) (he : U.get elem = some te) (hz : te.info.zero = some z) (hzs : Nat.beq (cellsL z).length te.info.size = true) (hsz : Nat.blt 0 te.info.size = true)
    (hi : getL H i = some A) (hv : Vw A (.slice a0 kk cap) kk cs) (hl : cs.length = kk * te.info.size) (hgt : cap < kk + mm) (hm0 : 0 < mm)
    (hmax : kk + mm ≤ 9223372036854775807) (hmm : mm * te.info.bytes ≤ 140737488355328) (hbytes : (kk + mm) * te.info.bytes ≤ 140737488355328)
    (hS : ∀ v' w, Sat G w (slc elem te.info.size v' (kk + mm) (cs ++ (List.replicate mm (cellsL z)).flatten) :: H) → Sx rest S w)
    (h : ∀ v', J P f n R G S all rest k ((d, v') :: L) (slc elem te.info.size v' (kk + mm) (cs ++ (List.replicate mm (cellsL z)).flatten) :: H)) :
    J P f n R G S all (.cons false true ⟨some d, .call { callee := .builtin .append, args := #[x, y], argTypes := #[t, t2] }, ty, pos, af, gd⟩ rest) k L H := by
  refine J_act hd (fun u H1 => H1 = slc elem te.info.size u (kk + mm) (cs ++ (List.replicate mm (cellsL z)).flatten) :: H) (fun a w ha hw => ?_) ?_ ?_
  · have hr := run_appendZ (P := P) (rty := ty) i ht hu h2 h2n he hz (Nat.eq_of_beq_eq_true hzs) (by simpa [Nat.blt_eq] using hsz) hw hi hv hl hgt hm0 hmax hmm hbytes
    refine ⟨.slice (some ⟨w.heap.size, 0, none⟩) (kk + mm) (grownCap w (kk + mm) cap elem), w.drew.alloc (cl (cs ++ (List.replicate mm (cellsL z)).flatten ++ (Builtin.zeroCells z.cells (grownCap w (kk + mm) cap elem - (kk + mm))).toList) elem), _, ?_, rfl, ?_⟩
    · simp [execOp, resolve, invoke, builtin, ha.ev hx, ha.ev hy, hr]
    · have h5 := Sat.alloc (w := w.drew) (hw.draw _) (cl (cs ++ (List.replicate mm (cellsL z)).flatten ++ (Builtin.zeroCells z.cells (grownCap w (kk + mm) cap elem - (kk + mm))).toList) elem)
      refine h5.ent (Ent.fold (B := [_]) fun h hs => ⟨h, sub.refl h, ?_⟩)
      have hge := grownCap_ge w (kk + mm) cap elem
      have hzl : (List.replicate mm (cellsL z)).flatten.length = mm * te.info.size := by rw [flat_replicate, Nat.eq_of_beq_eq_true hzs]
      refine ⟨by simp only [List.length_append, hl, hzl, Nat.add_mul], .inr ⟨w.heap.size, 0, _, [], _, rfl, rfl, hge, ?_, by simpa using Sep_one hs⟩⟩
      have h7 : (Builtin.zeroCells z.cells (grownCap w (kk + mm) cap elem - (kk + mm))).size = (grownCap w (kk + mm) cap elem - (kk + mm)) * te.info.size := by rw [size_zeroCells, cellsL_eq]; simp [Nat.eq_of_beq_eq_true hzs]
      rw [List.length_append, hl, hzl, Array.length_toList, h7, ← Nat.add_mul, ← Nat.add_mul]
      exact Nat.le_of_eq (by congr 1; omega)
  · rintro u H1 w rfl hw; exact hS u w hw
  · rintro u H1 rfl; exact h u
theorem J_slice3 {t elem : TypeId} {ty' te : Ty} {x lo hi mx : Operand} {a0 : Option Addr} {len cap : Nat} {p q r : Int} {j1 j2 j3 : IntKind} (hd : Nat.blt d n = true)
    (ht : U.get t = some ty') (hu : ty'.und = .slice elem) (he : U.get elem = some te) (hx : ev L x = some (.slice a0 len cap)) (hlo : ev L lo = some (.int j1 p)) (hhi : ev L hi = some (.int j2 q)) (hmx : ev L mx = some (.int j3 r)) (h0 : 0 ≤ p) (hpq : p ≤ q) (hqr : q ≤ r) (hrc : r ≤ (cap : Int))
    (h : J P f n R G S all rest k ((d, .slice (sliceAt a0 r.toNat p.toNat te.info.size) (q.toNat - p.toNat) (r.toNat - p.toNat)) :: L) H) :
    J P f n R G S all (.cons m true ⟨some d, .slice t x (some lo) (some hi) (some mx), ty, pos, af, gd⟩ rest) k L H := by
  refine J_pure hd (fun a ha w => ?_) h
  have hb : (Instr.sliceBounds true len cap (some (a.eval lo)) (some (a.eval hi)) (some (a.eval mx))).run P w = .ok (p.toNat, q.toNat, r.toNat) w := by
    unfold Instr.sliceBounds
    have e1 : 0 ≤ r ∧ r ≤ (cap : Int) := ⟨by omega, hrc⟩
    have e2 : 0 ≤ q ∧ q ≤ ((r.toNat : Nat) : Int) := ⟨by omega, by omega⟩
    have e3 : 0 ≤ p ∧ p ≤ ((q.toNat : Nat) : Int) := ⟨h0, by omega⟩
    have e4 : q ≤ max r 0 := by omega
    have e5 : p ≤ max q 0 := by omega
    have e6 : 0 ≤ q := by omega
    simp [ha.ev hlo, ha.ev hhi, ha.ev hmx, Instr.sliceBound, asIntOf, e1, e2, e3, e4, e5, e6]
  simp only [execOp, ha.ev hx, Instr.sliceAt, Sem.run_bind, run_underlying ht, Result.andThen_ok, hu, Instr.slice, Option.map_some, hb, run_sizeOf he, Sem.run_pure, sliceAt]
  by_cases hc : p.toNat = r.toNat
  · simp [hc]
  · simp only [if_neg (Ne.symm hc), if_neg hc]
theorem J_overlaps {g : FuncId} {fn : Func} {args : Array Operand} {tys : Array TypeId} {tS elem : TypeId} {ty' te : Ty} {b1 o1 n1 c1 b2 o2 n2 c2 : Nat} {l1 l2 : List Value} {e1 e2 : TypeId} {Fr : List HP} {rs : Array TypeId} (is : List Nat) (hd : Nat.blt d n = true)
    (hf : P.funcs[g]? = some fn) (hb : fn.body = none) (hn : (fn.name == "runtime.NumGoroutine") = false) (hnx : (Extern.findNext fn).isNone = true) (he : Extern.find fn = some (Extern.SlicesOverlaps.overlaps #[tS, tS] rs))
    (ht : U.get tS = some ty') (hu : ty'.und = .slice elem) (hel : U.get elem = some te)
    (hargs : evs L args.toList [] = .mk [.slice (some ⟨b1, o1, none⟩) n1 c1, .slice (some ⟨b2, o2, none⟩) n2 c2]) (hi : pickE is [] H [] = .mk [pts b1 (cl l1 e1), pts b2 (cl l2 e2)] Fr)
    (h : J P f n R G S all rest k ((d, .bool false) :: L) H) :
    J P f n R G S all (.cons false true ⟨some d, .call { callee := .value (.func g), args := args, argTypes := tys }, ty, pos, af, gd⟩ rest) k L H := by
  refine J_read hd (fun a w ha hw => ?_) h
  have hw2 := hw.ent (Ent.pick is hi)
  have hne := Sat.ne hw2
  have hb1 : w.heap[b1]? = some (cl l1 e1) := hw2.getP (i := 0) rfl
  have hb2 : w.heap[b2]? = some (cl l2 e2) := hw2.getP (i := 1) rfl
  have hbn : (b1 == b2) = false := by simpa using hne
  have f1 : ∀ o, w.frozen? ⟨b1, o, none⟩ = false := fun o => frozen_of_block hb1
  have f2 : ∀ o, w.frozen? ⟨b2, o, none⟩ = false := fun o => frozen_of_block hb2
  have s1 : w.shape? b1 = some (e1, l1.length) := by simp [World.shape?, hb1, cl]
  have s2 : w.shape? b2 = some (e2, l2.length) := by simp [World.shape?, hb2, cl]
  simp only [execOp, resolve, Sem.run_bind, Act.eval, Deferred.ofValue, Sem.run_pure, Result.andThen_ok, invoke]
  rw [show (args.map fun x => a.eval x) = args.map a.eval from rfl] at *
  have hav := evs_arr ha _ _ hargs
  rw [show Array.map a.eval args = #[.slice (some ⟨b1, o1, none⟩) n1 c1, .slice (some ⟨b2, o2, none⟩) n2 c2] from hav]
  simp only [Array.empty_append, Array.append_empty]
  rw [run_extern hf hb hn hnx he]
  have hov : (Extern.SlicesOverlaps.overlaps #[tS, tS] rs #[.slice (some ⟨b1, o1, none⟩) n1 c1, .slice (some ⟨b2, o2, none⟩) n2 c2]).run P w = .ok (.bool false) w := by
    change Sem.run P (α := Value) (do
      let some t := (#[tS, tS] : Array TypeId)[0]? | stuck "slices.overlaps: no parameter types"
      let .slice elem ← underlying t | stuck "slices.overlaps: slice type expected"
      let size ← sizeOf elem
      match (some (⟨b1, o1, none⟩ : Addr) : Option Addr), (some (⟨b2, o2, none⟩ : Addr) : Option Addr) with
      | some a, some b =>
        if n1 = 0 ∨ n2 = 0 ∨ size = 0 then pure (Value.bool false)
        else if a.block != b.block && (← frozen a) && (← frozen b) then unsupported .addressObserved
        else do
          if a.block != b.block then do
            noView a; noView b
            if ← mayBeOne a b then return Value.bool ((← choose (.extern "sameAddr.stringBytes" 2)) == 1)
          pure (Value.bool (a.block == b.block && a.off < b.off + n2 * size && b.off < a.off + n1 * size))
      | _, _ => pure (Value.bool false)) w = _
    by_cases h0 : n1 = 0 ∨ n2 = 0 ∨ te.info.size = 0
    · simp [run_underlying ht, hu, run_sizeOf hel, h0]
    · simp [run_underlying ht, hu, run_sizeOf hel, h0, hbn, frozen, noView, viewAt, mayBeOne, stringish, shape, Sem.run, s1, s2, f1, f2, hne]
  rw [hov]
  rfl
theorem J_cap {x : Operand} {t : TypeId} {ty' : Ty} {e : TypeId} {a0 : Option Addr} {len cap : Nat} (hd : Nat.blt d n = true) (hx : ev L x = some (.slice a0 len cap)) (ht : U.get t = some ty') (hu : ty'.und = .slice e)
    (h : J P f n R G S all rest k ((d, .int .i64 (cap : Int)) :: L) H) : J P f n R G S all (.cons m true ⟨some d, .call { callee := .builtin .cap, args := #[x], argTypes := #[t] }, ty, pos, af, gd⟩ rest) k L H := by
  refine J_pure hd (fun a ha w => ?_) h
  simp [execOp, resolve, invoke, builtin, ha.ev hx, Builtin.cap_, run_underlying ht, hu, goInt]
end
end Go.SL

/- Engine, part O: copy of a part; parts of a view. Nothing here names a program. -/
set_option linter.unusedVariables false
set_option linter.unusedSimpArgs false
namespace Go.SL
theorem Vw.front {A : HP} {b o n cap : Nat} {cs : List Value} (h : Vw A (.slice (Option.some ⟨b, o, none⟩) n cap) n cs) (i cap' q : Nat) : Vw A (.slice (Option.some ⟨b, o, none⟩) i cap') i (cs.take q) := by
  obtain ⟨a, cap2, hv, h0 | ⟨b', o', ha, hc⟩⟩ := h
  · subst h0; exact ⟨_, cap', rfl, .inl (by simp)⟩
  · simp only [Value.slice.injEq, true_and] at hv
    obtain ⟨rfl, _⟩ := hv
    simp only [Option.some.injEq, Addr.mk.injEq, and_true] at ha
    obtain ⟨rfl, rfl⟩ := ha
    refine ⟨_, cap', rfl, .inr ⟨b, o, rfl, fun h hA j c hj => ?_⟩⟩
    rw [List.getElem?_take] at hj
    split at hj
    · exact hc h hA j c hj
    · cases hj
theorem Vw.back {A : HP} {b o n cap : Nat} {cs : List Value} (h : Vw A (.slice (Option.some ⟨b, o, none⟩) n cap) n cs) (i cap' q : Nat) : Vw A (.slice (Option.some ⟨b, o + q, none⟩) i cap') i (cs.drop q) := by
  obtain ⟨a, cap2, hv, h0 | ⟨b', o', ha, hc⟩⟩ := h
  · subst h0; exact ⟨_, cap', rfl, .inl (by simp)⟩
  · simp only [Value.slice.injEq, true_and] at hv
    obtain ⟨rfl, _⟩ := hv
    simp only [Option.some.injEq, Addr.mk.injEq, and_true] at ha
    obtain ⟨rfl, rfl⟩ := ha
    refine ⟨_, cap', rfl, .inr ⟨b, o + q, rfl, fun h hA j c hj => ?_⟩⟩
    rw [List.getElem?_drop] at hj
    rw [Nat.add_assoc]
    exact hc h hA (q + j) c hj
theorem sliceAt_some (b o cap p sz : Nat) (h : p ≠ cap) : sliceAt (some ⟨b, o, none⟩) cap p sz = some ⟨b, o + p * sz, none⟩ := by
  unfold sliceAt; rw [if_neg h, Option.map_some, Addr.add_eq]
section
variable {P : Program} {U : Tr} [hU : TabOk P U] {f : FuncId} {n : Nat} {R : Ending → World → Prop} {G : Glob} {k : List Item} {L : Lst} {H H' : List HP} {S : World → Prop} {all : Array Oper} {rest : Pl}
  {ty : TypeId} {pos : String} {af : Array Edge} {gd : Option (Nat × Bool)} {m : Bool} {d : Tmp}
theorem K_slcF {e : TypeId} {sz nn : Nat} {v : Value} {cs : List Value} (i : Nat) (hi : getL H i = some (slc e sz v nn cs)) (h0 : 0 < nn)
    (h : ∀ b o c, v = .slice (some ⟨b, o, none⟩) nn c → nn ≤ c → cs.length = nn * sz → Vw (slc e sz v nn cs) v nn cs → K P f n R G k L H) : K P f n R G k L H :=
  K_sat fun ⟨w, hw⟩ => by
    obtain ⟨h1, _, hA⟩ := hw.getA hi
    have hv := Vw.of_slc e sz v nn cs ⟨h1, hA⟩
    obtain ⟨hl, ⟨a, rfl, rfl, _⟩ | ⟨b, o, cap, pre, junk, rfl, _, hc, _⟩⟩ := hA
    · omega
    · exact h _ _ _ rfl hc hl hv
theorem slc_openN {e : TypeId} {b o c nn sz : Nat} {cs : List Value} (h0 : 0 < nn) : ∀ h, slc e sz (.slice (some ⟨b, o, none⟩) nn c) nn cs h → ∃ x : List Value × List Value, (x.1.length = o ∧ nn ≤ c ∧ c * sz ≤ cs.length + x.2.length ∧ cs.length = nn * sz) ∧ Sep [pts b (cl (x.1 ++ cs ++ x.2) e)] h := by
  rintro h ⟨hl, ⟨a, hv, rfl, he⟩ | ⟨b', o', cap, pre, junk, hv, hp, hn, hc, hpt⟩⟩
  · omega
  · simp only [Value.slice.injEq, Option.some.injEq, Addr.mk.injEq, and_true, true_and] at hv
    obtain ⟨⟨rfl, rfl⟩, rfl⟩ := hv
    exact ⟨(pre, junk), ⟨hp, hn, hc, hl⟩, Sep_one' hpt⟩
theorem sliceAt_zero (b o cap sz : Nat) : sliceAt (some ⟨b, o, none⟩) cap 0 sz = some ⟨b, o, none⟩ := by
  unfold sliceAt; split
  · rfl
  · rw [Option.map_some, Addr.add_eq]; simp
theorem ins_a {pre c1 d c3 junk : List Value} {q s r : Nat} (h : pre.length + c1.length = q) (hd : d.length = s) (hr : r = q + s + (d ++ c3).length) (hj : s ≤ junk.length) :
    (pre ++ (c1 ++ (d ++ c3)) ++ junk).take (q + s) ++ (d ++ c3) ++ (pre ++ (c1 ++ (d ++ c3)) ++ junk).drop r = pre ++ c1 ++ d ++ (d ++ c3) ++ junk.drop s := by
  have e1 : pre ++ (c1 ++ (d ++ c3)) ++ junk = (pre ++ c1 ++ d) ++ (c3 ++ junk) := by simp only [List.append_assoc]
  have e2 : pre ++ (c1 ++ (d ++ c3)) ++ junk = (pre ++ (c1 ++ (d ++ c3)) ++ junk.take s) ++ junk.drop s := by rw [List.append_assoc (pre ++ (c1 ++ (d ++ c3))) (junk.take s) (junk.drop s), List.take_append_drop]
  have h1 : (pre ++ (c1 ++ (d ++ c3)) ++ junk).take (q + s) = pre ++ c1 ++ d := by rw [e1]; exact List.take_left' (by simp only [List.length_append]; omega)
  have h2 : (pre ++ (c1 ++ (d ++ c3)) ++ junk).drop r = junk.drop s := by
    rw [e2]; exact List.drop_left' (by simp only [List.length_append, List.length_take] at hr ⊢; omega)
  rw [h1, h2]
theorem ins_b {pre c1 d rest f : List Value} {q s r : Nat} (h : pre.length + c1.length = q) (hd : d.length = s) (hr : r = q + s) :
    (pre ++ c1 ++ d ++ rest).take q ++ f ++ (pre ++ c1 ++ d ++ rest).drop r = pre ++ (c1 ++ f) ++ rest := by
  have h1 : (pre ++ c1 ++ d ++ rest).take q = pre ++ c1 := by rw [List.append_assoc]; exact List.take_left' (by simp only [List.length_append]; omega)
  have h2 : (pre ++ c1 ++ d ++ rest).drop r = rest := List.drop_left' (by simp only [List.length_append]; omega)
  rw [h1, h2]; simp only [List.append_assoc]
theorem J_copyT {x y : Operand} {t t2 elem : TypeId} {ty' te : Ty} {v2 : Value} {b o dl dc mm : Nat} {l src l' : List Value} {e : TypeId} {A : HP} (i j : Nat) (hd : Nat.blt d n = true)
    (hx : ev L x = some (.slice (some ⟨b, o, none⟩) dl dc)) (hy : ev L y = some v2) (ht : U.get t = some ty') (hu : ty'.und = .slice elem) (he : U.get elem = some te)
    (hi : getL H i = some (pts b (cl l e))) (hj : getL H j = some A) (hv2 : Vw A v2 mm src) (hl2 : src.length = mm * te.info.size) (hone : ∀ u ∈ src.take (min mm dl * te.info.size), u.oneCell' = true)
    (hfit : o + (min mm dl) * te.info.size ≤ l.length) (hl' : l' = l.take o ++ src.take (min mm dl * te.info.size) ++ l.drop (o + min mm dl * te.info.size)) (hp : putP i (pts b (cl l' e)) H [] = .mk H')
    (hS : ∀ w, Sat G w H' → Sx rest S w)
    (h : J P f n R G S all rest k ((d, .int .i64 (min mm dl : Nat)) :: L) H') :
    J P f n R G S all (.cons false true ⟨some d, .call { callee := .builtin .copy, args := #[x, y], argTypes := #[t, t2] }, ty, pos, af, gd⟩ rest) k L H := by
  refine J_act hd (fun u H1 => u = .int .i64 (min mm dl : Nat) ∧ H1 = H') (fun a w ha hw => ?_) ?_ ?_
  · have hf := run_firstN (P := P) (q := min mm dl) hv2 hw hj hl2 (Nat.min_le_left _ _)
    obtain ⟨a2, c2, hv', _⟩ := hv2
    subst hv'
    have h3 : (src.take (min mm dl * te.info.size)).length = min mm dl * te.info.size := by rw [List.length_take, hl2]; exact Nat.min_eq_left (Nat.mul_le_mul_right _ (Nat.min_le_left _ _))
    have hst := run_storeCells (P := P) (src.take (min mm dl * te.info.size)) 0 o l w (hw.getP hi) (by rw [h3]; simpa using hfit) hone
    simp only [Nat.add_zero, h3, ← hl'] at hst
    refine ⟨_, _, H', ?_, ⟨rfl, rfl⟩, hw.put hi hp⟩
    simp only [execOp, resolve, invoke, builtin, Sem.run_bind, Sem.run_pure, Result.andThen_ok, List.map_toArray, List.map_cons, List.map_nil, ha.ev hx, ha.ev hy, Builtin.copy_, List.getElem?_toArray, List.getElem?_cons_zero, List.getElem?_cons_succ,
      run_underlying ht, hu, Builtin.lenOf, run_sizeOf he]
    rw [show Nat.min mm dl = min mm dl from rfl]
    simp only [hf, Result.andThen_ok, hst, goInt]
  · rintro u H1 w ⟨rfl, rfl⟩ hw; exact hS w hw
  · rintro u H1 ⟨rfl, rfl⟩; exact h

end
end Go.SL

/- Engine, part P: one cell of a row; stores turned round and cut; a slice cut short. Nothing here names a program. -/
set_option linter.unusedVariables false
set_option linter.unusedSimpArgs false
namespace Go.SL
/-- One cell of a row, whatever the others hold. -/
def cellP (b off : Nat) (v : Value) : HP := fun h => hcell h b off = some v
theorem cellP_of {b off : Nat} {v : Value} {l : List Value} {e : TypeId} (hv : l[off]? = some v) (H : List HP) : Ent (pts b (cl l e) :: H) (cellP b off v :: H) :=
  Ent.head (B := [cellP b off v]) fun h hs => ⟨h, sub.refl h, Sep_one' (by
    have h1 := (Vw.pts (b := b) (l := l) (e := e) (o := 0) (n := l.length) (cap := l.length) (cs := l) (by simp)).cell hv h hs
    rw [Nat.zero_add] at h1; exact h1)⟩
theorem cellP_view (b off : Nat) (v : Value) : Vw (cellP b off v) (.slice (some ⟨b, off, none⟩) 1 1) 1 [v] :=
  ⟨_, _, rfl, .inr ⟨b, off, rfl, fun h hA j c hj => by
    cases j with
    | zero => simp at hj; subst hj; exact hA
    | succ j => simp at hj⟩⟩
theorem stock_perm {α : Type} (g : α → HP) {l l' : List α} (hp : l.Perm l') (H : List HP) : Ent (stock g l :: H) (stock g l' :: H) := fun h hs => ⟨h, sub.refl h, star_mono (fun h hs => Sep_perm (hp.map g) h hs) (fun _ h => h) hs⟩
theorem stock_take {α : Type} (g : α → HP) (l : List α) (m : Nat) (H : List HP) : Ent (stock g l :: H) (stock g (l.take m) :: H) := by
  refine Ent.head (B := [stock g (l.take m)]) fun h hs => ?_
  have h1 : Sep ((l.take m).map g ++ (l.drop m).map g) h := by rw [← List.map_append, List.take_append_drop]; exact hs
  obtain ⟨h', hs', hS⟩ := star_left (Sep_append h1)
  exact ⟨h', hs', Sep_one' hS⟩
theorem slc_cut {e : TypeId} {sz b o c n m : Nat} {cs : List Value} (hm : m ≤ n) (h0 : 0 < n) (H : List HP) : Ent (slc e sz (.slice (some ⟨b, o, none⟩) n c) n cs :: H) (slc e sz (.slice (some ⟨b, o, none⟩) m c) m (cs.take (m * sz)) :: H) := by
  refine Ent.head (B := [slc e sz (.slice (some ⟨b, o, none⟩) m c) m (cs.take (m * sz))]) fun h hs => ?_
  obtain ⟨⟨pre, junk⟩, ⟨h1, h2, h3, h4⟩, h5⟩ := slc_openN h0 h hs
  simp only at h1 h2 h3 h4 h5
  have hmz : m * sz ≤ n * sz := Nat.mul_le_mul_right sz hm
  have hl : (cs.take (m * sz)).length = m * sz := by rw [List.length_take, h4]; omega
  refine ⟨h, sub.refl h, Sep_one' ⟨hl, .inr ⟨b, o, c, pre, cs.drop (m * sz) ++ junk, rfl, h1, by omega, ?_, ?_⟩⟩⟩
  · rw [hl, List.length_append, List.length_drop, h4]; rw [h4] at h3; omega
  · have := Sep_one h5
    rw [show pre ++ cs.take (m * sz) ++ (cs.drop (m * sz) ++ junk) = pre ++ cs ++ junk from by rw [List.append_assoc, ← List.append_assoc (cs.take _), List.take_append_drop, List.append_assoc]]
    exact this
theorem stockV_mem {α : Type} {g : α → HP} {l : List α} {x : α} (hx : x ∈ l) {h : Hp} (hs : stock g l h) : ∃ h', sub h' h ∧ g x h' := stock_mem hx hs
theorem K_slcLe {P : Program} {f : FuncId} {n : Nat} {R : Ending → World → Prop} {G : Glob} {k : List Item} {L : Lst} {H : List HP} {e : TypeId} {sz nn c : Nat} {a : Option Addr} {cs : List Value} (i : Nat) (hi : getL H i = some (slc e sz (.slice a nn c) nn cs))
    (h : nn ≤ c → cs.length = nn * sz → Vw (slc e sz (.slice a nn c) nn cs) (.slice a nn c) nn cs → K P f n R G k L H) : K P f n R G k L H :=
  K_sat fun ⟨w, hw⟩ => by
    obtain ⟨h1, _, hA⟩ := hw.getA hi
    have hv := Vw.of_slc e sz _ nn cs ⟨h1, hA⟩
    obtain ⟨hl, ⟨a, hv1, rfl, _⟩ | ⟨b, o, cap, pre, junk, hv1, _, hc, _⟩⟩ := hA
    · simp only [Value.slice.injEq] at hv1; exact h (by omega) hl hv
    · simp only [Value.slice.injEq] at hv1; exact h (by omega) hl hv
theorem Vw.cut0 {A : HP} {a : Option Addr} {n cap s : Nat} {cs : List Value} (h : Vw A (.slice a n cap) n cs) (k : Nat) : Vw A (.slice (sliceAt a cap 0 s) k cap) k (cs.take (k * s)) := by
  have h' := h
  obtain ⟨a', cap2, hv, h0 | ⟨b', o', ha, hc⟩⟩ := h
  · subst h0; exact ⟨_, cap, rfl, .inl (by simp)⟩
  · simp only [Value.slice.injEq, true_and] at hv
    obtain ⟨rfl, _⟩ := hv
    subst ha
    rw [sliceAt_zero]
    exact h'.front k cap (k * s)
theorem Vw.cutk {A : HP} {a : Option Addr} {n cap s : Nat} {cs : List Value} (h : Vw A (.slice a n cap) n cs) (hl : cs.length = n * s) (hn : n ≤ cap) (k : Nat) (hk : k ≤ n) : Vw A (.slice (sliceAt a cap k s) (n - k) (cap - k)) (n - k) (cs.drop (k * s)) := by
  have h' := h
  obtain ⟨a', cap2, hv, h0 | ⟨b', o', ha, hc⟩⟩ := h
  · subst h0; exact ⟨_, _, rfl, .inl (by simp)⟩
  · simp only [Value.slice.injEq, true_and] at hv
    obtain ⟨rfl, _⟩ := hv
    subst ha
    by_cases hkc : k = cap
    · have : cs.drop (k * s) = [] := List.eq_nil_of_length_eq_zero (by rw [List.length_drop, hl, hkc, show n = cap from by omega]; omega)
      rw [this]; exact ⟨_, _, rfl, .inl rfl⟩
    · rw [sliceAt_some _ _ _ _ _ hkc]
      exact h'.back (n - k) (cap - k) (k * s)
theorem stock_split {α : Type} (g : α → HP) (l : List α) (m : Nat) (H : List HP) : Ent (stock g l :: H) (stock g (l.take m) :: stock g (l.drop m) :: H) := fun h hs => by
  refine ⟨h, sub.refl h, star_assoc' (star_mono (fun h hs => ?_) (fun _ h => h) hs)⟩
  have h1 : Sep ((l.take m).map g ++ (l.drop m).map g) h := by rw [← List.map_append, List.take_append_drop]; exact hs
  exact Sep_append h1
theorem take_first {α : Type} {P : α → Bool} (l : List α) (i : Nat) (h1 : ∀ y ∈ l.take i, P y = true) (h2 : l.length ≤ i ∨ ∃ x, l[i]? = Option.some x ∧ P x = false) : l.take i = l.takeWhile P ∧ l.drop i = l.dropWhile P := by
  induction l generalizing i with
  | nil => simp
  | cons y l ih =>
    cases i with
    | zero =>
      rcases h2 with h2 | ⟨x, hx, hp⟩
      · simp at h2
      · simp at hx; subst hx; simp [List.takeWhile_cons, List.dropWhile_cons, hp]
    | succ i =>
      have hy : P y = true := h1 y (by simp)
      have := ih i (fun z hz => h1 z (by simp [hz])) (by simpa using h2)
      simp [List.takeWhile_cons, List.dropWhile_cons, hy, this.1, this.2]
theorem takeWhile_all {α : Type} {P : α → Bool} : ∀ (l : List α), ∀ x ∈ l.takeWhile P, P x = true := by
  intro l
  induction l with
  | nil => intro x hx; simp at hx
  | cons y l ih =>
    intro x hx
    rw [List.takeWhile_cons] at hx
    split at hx
    · rename_i h
      rcases List.mem_cons.1 hx with rfl | hx
      · exact h
      · exact ih x hx
    · cases hx
end Go.SL

/- Engine, part Q: a store into a field of an element of a slice. Nothing here names a program. -/
set_option linter.unusedVariables false
set_option linter.unusedSimpArgs false
namespace Go.SL
section
variable {P : Program} {U : Tr} [hU : TabOk P U] {f : FuncId} {n : Nat} {R : Ending → World → Prop} {G : Glob} {k : List Item} {L : Lst} {H H' : List HP} {S : World → Prop} {all : Array Oper} {rest : Pl}
  {ty : TypeId} {pos : String} {af : Array Edge} {gd : Option (Nat × Bool)} {m : Bool} {d : Tmp}
theorem J_storeSlcN {t : TypeId} {x y : Operand} {b o q off c nn sz : Nat} {ty' : Ty} {u : Value} {e : TypeId} {cs : List Value} (i : Nat) (hS : ∀ w, Sat G w H' → Sx rest S w)
    (hx : ev L x = some (.pointer (some ⟨b, off, none⟩))) (hoff : off = o + q) (hy : ev L y = some u) (ht : U.get t = some ty') (hsz : Nat.beq ty'.info.size 1 = true) (hc : cellsL u = [u]) (hone : allOne [u] = true)
    (hi : getL H i = some (slc e sz (.slice (some ⟨b, o, none⟩) nn c) nn cs)) (h0 : 0 < nn) (hq : q < nn * sz) (hp : putP i (slc e sz (.slice (some ⟨b, o, none⟩) nn c) nn (cs.set q u)) H [] = .mk H')
    (h : J P f n R G S all rest k L H') : J P f n R G S all (.cons false true ⟨none, .store t x y, ty, pos, af, gd⟩ rest) k L H := by
  subst hoff
  refine J_ent (Ent.perm (perm_of_get (by rw [← getL_eq]; exact hi))) ?_
  refine J_open (B := fun x : List Value × List Value => [pts b (cl (x.1 ++ cs ++ x.2) e)]) (fun h hs => slc_openN h0 h hs) ?_
  rintro ⟨pre, junk⟩ ⟨h1, h2, h3, h4⟩
  simp only at h1 h2 h3 h4
  have hset : (pre ++ cs ++ junk).set (o + q) u = pre ++ cs.set q u ++ junk := by
    rw [List.append_assoc, List.set_append_right _ _ (by omega), show o + q - pre.length = q by omega, List.set_append_left _ _ (by omega), List.append_assoc]
  have hE : Ent (pts b (cl (pre ++ cs.set q u ++ junk) e) :: H.eraseIdx i) H' := by
    have h5 := putP_eq i _ _ H [] H' hp hi
    exact (slc_closeN h1 h2 (by rw [List.length_set]; exact h3) (by rw [List.length_set]; exact h4) _).trans (Ent.perm (by simpa using h5.symm))
  refine J_store (U := U) (l' := pre ++ cs.set q u ++ junk) 0 (fun w hw => hS w (hw.ent hE)) hx hy ht (by rw [hc, Nat.eq_of_beq_eq_true hsz]; rfl) (by rw [hc]; rfl) (by rw [hc]; exact hone) rfl ?_ rfl (J_ent hE h)
  rw [hc, repl_go _ _ _ _ (by simp; omega), ← hset]
  rfl
end
end Go.SL

/- Engine, part R: string(b) where b stands through a region. Nothing here names a program. -/
set_option linter.unusedVariables false
set_option linter.unusedSimpArgs false
namespace Go.SL
section
variable {P : Program} {U : Tr} [hU : TabOk P U] {f : FuncId} {n : Nat} {R : Ending → World → Prop} {G : Glob} {k : List Item} {L : Lst} {H H' : List HP} {S : World → Prop} {all : Array Oper} {rest : Pl}
  {ty : TypeId} {pos : String} {af : Array Edge} {gd : Option (Nat × Bool)} {m : Bool} {d : Tmp}
theorem J_toStrS {Hs : List HP} {src dst e : TypeId} {ts td te : Ty} {x : Operand} {v : Value} {A : HP} {bs : List UInt8} (i : Nat) (hd : Nat.blt d n = true)
    (hx : ev L x = some v) (hs : U.get src = some ts) (hsu : ts.und = .slice e) (he : U.get e = some te) (heu : te.und = .int .u8) (hdt : U.get dst = some td) (hdu : td.und = .string) (hi : getL Hs i = some A) (hv : Vw A v bs.length (bV bs))
    (h : J P f n R G (fun w => Sat G w Hs) all rest k ((d, .string (strOf bs)) :: L) H) : J P f n R G (fun w => Sat G w Hs) all (.cons true true ⟨some d, .convert src dst x, ty, pos, af, gd⟩ rest) k L H := by
  refine J_readS hd (fun a w ha hw => ?_) h
  have hw : Sat G w Hs := hw
  obtain ⟨a0, cap, rfl, h0 | ⟨b, o, rfl, hc⟩⟩ := hv.cells hw hi
  · have hb : bs = [] := by simpa [bV] using h0
    subst hb
    cases a0 with
    | none =>
      simp only [execOp, ha.ev hx, Sem.run_bind]
      rw [run_convert_bytes_string w src dst e _ _ _ (by rw [und_of (P := P) hs, hsu]) (by rw [und_of (P := P) he, heu]) (by rw [und_of (P := P) hdt, hdu])]
      simp [Conv.bytesToString, strOf]
      rfl
    | some a1 =>
      simp only [execOp, ha.ev hx, Sem.run_bind]
      rw [run_convert_bytes_string w src dst e _ _ _ (by rw [und_of (P := P) hs, hsu]) (by rw [und_of (P := P) he, heu]) (by rw [und_of (P := P) hdt, hdu])]
      rw [run_bytesToString w a1 _ _ [] (by simp [loadCells, loadCellsFrom])]
      simp [strOf]
      rfl
  · have h1 := run_loadCells_list (P := P) w ⟨b, o, none⟩ (bV bs) (fun j c hj => by rw [Addr.add_eq]; exact hc j c hj)
    rw [bV_length] at h1
    simp only [execOp, ha.ev hx, Sem.run_bind]
    rw [run_convert_bytes_string w src dst e _ _ _ (by rw [und_of (P := P) hs, hsu]) (by rw [und_of (P := P) he, heu]) (by rw [und_of (P := P) hdt, hdu])]
    rw [run_bytesToString w _ _ _ (bs.map fun x => (x.toNat : Int)) (by rw [h1]; simp [bV, u8]), foldl_push]
    simp [strOf]
end
end Go.SL

