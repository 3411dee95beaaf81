/- Texts of one claim, joined: Fv, Rm, Rv, Rn, Ro, Rp, Rq, Rr. -/
import Derived.Test.YtpdmbmnhgcnelaaQHeads7
import Derived.Test.YtpdmbmnhgcnelaaQHeads8
/- files, part v: the reference's disk, that nothing in it goes wrong: names, find, may. -/
set_option linter.unusedVariables false
set_option linter.unusedSimpArgs false
namespace Go.Proofs.Ytpdmbmnhgcnelaa
open Go Go.SL
attribute [local irreducible] J K Ctr Ends pts slc mapR mapI sbRow stock arrS

abbrev Nm := ByteArray × Nat
def ncell (x : Nm) : List Value := [.string x.1, .int .i64 x.2]
theorem ncell_len (x : Nm) : (ncell x).length = 2 := rfl
def wcell (x : Nat × Nat × Value) : List Value := [.int .i64 x.1, .int .i64 x.2.1, x.2.2]
theorem wcell_len (x : Nat × Nat × Value) : (wcell x).length = 3 := rfl
structure RDk where
  room : Int
  now : Value
  sure : Value
  lv : Value
  sts : Value
  wrs : Value
  nxt : Value
  down : Bool
  nowL : List Value
  sureL : List Value
  stsL : List Value
  wl : List (Nat × Nat × Value)
  arrs : Arrs
  nrows : Arrs
def rdL (br : Nat) (D : RDk) : List HP :=
  [pts br (cl [.int .i64 D.room, D.now, D.sure, D.lv, D.sts, D.wrs, D.nxt, .bool D.down] 61), arrS 5 D.arrs, arrS 77 D.nrows,
   slc 22 1 D.now D.nowL.length D.nowL, slc 22 1 D.sure D.sureL.length D.sureL, slc 58 1 D.sts D.stsL.length D.stsL, slc 84 3 D.wrs D.wl.length (D.wl.flatMap wcell)]
def rd (br : Nat) (D : RDk) : HP := Sep (rdL br D)
theorem rd_o (br : Nat) (room : Int) (now sure lv sts wrs nxt : Value) (down : Bool) (nowL sureL stsL : List Value) (wl : List (Nat × Nat × Value)) (arrs nrows : Arrs) (H : List HP) :
    Ent (rd br ⟨room, now, sure, lv, sts, wrs, nxt, down, nowL, sureL, stsL, wl, arrs, nrows⟩ :: H)
      (pts br (cl [.int .i64 room, now, sure, lv, sts, wrs, nxt, .bool down] 61) :: arrS 5 arrs :: arrS 77 nrows ::
        slc 22 1 now nowL.length nowL :: slc 22 1 sure sureL.length sureL :: slc 58 1 sts stsL.length stsL :: slc 84 3 wrs wl.length (wl.flatMap wcell) :: H) := Ent.unsep (rdL br ⟨room, now, sure, lv, sts, wrs, nxt, down, nowL, sureL, stsL, wl, arrs, nrows⟩) H
theorem rd_c (br : Nat) (room : Int) (now sure lv sts wrs nxt : Value) (down : Bool) (nowL sureL stsL : List Value) (wl : List (Nat × Nat × Value)) (arrs nrows : Arrs) (H : List HP) :
    Ent (pts br (cl [.int .i64 room, now, sure, lv, sts, wrs, nxt, .bool down] 61) :: arrS 5 arrs :: arrS 77 nrows ::
        slc 22 1 now nowL.length nowL :: slc 22 1 sure sureL.length sureL :: slc 58 1 sts stsL.length stsL :: slc 84 3 wrs wl.length (wl.flatMap wcell) :: H)
      (rd br ⟨room, now, sure, lv, sts, wrs, nxt, down, nowL, sureL, stsL, wl, arrs, nrows⟩ :: H) := Ent.resep (rdL br ⟨room, now, sure, lv, sts, wrs, nxt, down, nowL, sureL, stsL, wl, arrs, nrows⟩) H
def BOk (M : Arrs) (v : Value) : Prop := ∃ bs, BIn M v bs ∧ bs.length ≤ 1048576
def NOk (M : Arrs) (n k : Nat) (v : Value) : Prop := ∃ l : List Nm, RIn M 2 v l.length (l.flatMap ncell) ∧ (∀ x ∈ l, x.2 < n) ∧ l.length ≤ k
theorem BOk.mono {M M' : Arrs} {v : Value} (h : BOk M v) (hs : ∀ x ∈ M, x ∈ M') : BOk M' v := by obtain ⟨bs, h1, h2⟩ := h; exact ⟨bs, h1.mono hs, h2⟩
theorem NOk.mono {M M' : Arrs} {n k n' k' : Nat} {v : Value} (h : NOk M n k v) (hs : ∀ x ∈ M, x ∈ M') (hn : n ≤ n') (hk : k ≤ k') : NOk M' n' k' v := by
  obtain ⟨l, h1, h2, h3⟩ := h; exact ⟨l, h1.mono hs, fun x hx => Nat.lt_of_lt_of_le (h2 x hx) hn, by omega⟩
structure ROk (D : RDk) (k : Nat) : Prop where
  nl : D.sureL.length = D.nowL.length
  nk : D.nowL.length ≤ k
  now : ∀ v ∈ D.nowL, BOk D.arrs v
  sure : ∀ v ∈ D.sureL, BOk D.arrs v
  l : NOk D.nrows D.nowL.length k D.lv
  sts : ∀ v ∈ D.stsL, NOk D.nrows D.nowL.length k v
  full : D.stsL ≠ []
  sk : D.stsL.length ≤ k + 1
  wr : ∀ x ∈ D.wl, x.1 < D.nowL.length ∧ ∃ bs, BIn D.arrs x.2.2 bs ∧ x.2.1 + bs.length ≤ 1048576
  wk : D.wl.length ≤ k
  nxt : ∃ bs, BIn D.arrs D.nxt bs
  kk : k ≤ 100000

theorem ROk.up {D : RDk} {k k' : Nat} (h : ROk D k) (hk : k ≤ k') (hk' : k' ≤ 100000) : ROk D k' :=
  ⟨h.nl, by have := h.nk; omega, h.now, h.sure, h.l.mono (fun _ h => h) (Nat.le_refl _) hk, fun v hv => (h.sts v hv).mono (fun _ h => h) (Nat.le_refl _) hk, h.full, by have := h.sk; omega, h.wr, by have := h.wk; omega, h.nxt, hk'⟩

theorem ROk.setNext {D : RDk} {k : Nat} (h : ROk D k) {v : Value} {bs : List UInt8} (o : Bool) (hb : BIn D.arrs v bs) : ROk { D with nxt := v, down := o } k :=
  ⟨h.nl, h.nk, h.now, h.sure, h.l, h.sts, h.full, h.sk, h.wr, h.wk, ⟨bs, hb⟩, h.kk⟩
theorem K_slcVw {P : Program} {f : FuncId} {n : Nat} {R : Ending → World → Prop} {G : Glob} {k : List Item} {L : Lst} {H : List HP} {e : TypeId} {sz nn : Nat} {v : Value} {cs : List Value} (i : Nat) (hi : getL H i = some (slc e sz v nn cs))
    (h : Vw (slc e sz v nn cs) v nn cs → K P f n R G k L H) : K P f n R G k L H :=
  K_sat fun ⟨w, hw⟩ => by
    obtain ⟨h1, _, hA⟩ := hw.getA hi
    exact h (Vw.of_slc e sz v nn cs ⟨h1, hA⟩)
set_option maxRecDepth 20000 in
theorem IsName_ref (s : ByteArray) (hs : s.size ≤ 9223372036854775807) : Ctr Try.prog 27 [.string s] [] (fun v H => ∃ b, v = .bool b ∧ H = []) := by
  refine Ctr.enter Try.func27 (by kernel_rfl) rfl Try.ntmps27 rfl rfl ?_
  intro G F R hR
  repeat' (first | (with_reducible intro _hh) | refine go1 ?_ | refine J_fork ?_ ?_ | refine J_gsP rfl rfl rfl rfl ?_ ?_ | refine K_condP rfl rfl ?_ ?_)
  any_goals refine K_return hR Try.func27 rfl _ rfl ⟨_, rfl, rfl⟩ (Ent.fin [] 0 rfl rfl)
  refine K_loop (fun i : Nat => i ≤ s.size) (fun i => s.size - i) (fun i => [(0, .string s), (3, .int .i64 i)]) (fun _ => F) 0 (Nat.zero_le _) rfl (by repeat (first | exact keep_nil | refine keep_cons rfl ?_)) (Ent.refl _) ?_
  intro i hi ih
  (refine go ?_)
  refine K_condP rfl rfl ?_ ?_
  · intro hlt
    (refine go ?_)
    refine J_indexStr (U := tab) rfl rfl rfl rfl rfl (by omega) hlt ?_
    repeat' (first | (with_reducible intro _hh) | refine go1 ?_ | refine J_fork ?_ ?_ | refine J_gsP rfl rfl rfl rfl ?_ ?_ | refine K_condP rfl rfl ?_ ?_)
    any_goals refine K_condA rfl rfl ?_ ?_
    any_goals (repeat' (first | (with_reducible intro _hh) | refine go1 ?_ | refine J_fork ?_ ?_ | refine J_gsP rfl rfl rfl rfl ?_ ?_ | refine K_condP rfl rfl ?_ ?_))
    any_goals refine K_return hR Try.func27 rfl _ rfl ⟨_, rfl, rfl⟩ (Ent.fin [] 0 rfl rfl)
    all_goals refine K_again ih (i + 1) rfl (by show i + 1 ≤ _; omega) (by omega) (by repeat (first | exact keep_nil | refine keep_cons rfl ?_)) (Ent.refl _)
  · intro hge
    (refine go ?_)
    refine K_return hR Try.func27 rfl _ rfl ⟨_, rfl, rfl⟩ (Ent.fin [] 0 rfl rfl)

theorem may_ref (br k : Nat) (D : RDk) (hD : ROk D k) : Ctr Try.prog 28 [ptr br] [rd br D] (fun v H => ∃ D' r, ROk D' k ∧ v = .int .i64 r ∧ H = [rd br D']) := by
  obtain ⟨room, now, sure, lv, sts, wrs, nxt, down, nowL, sureL, stsL, wl, arrs, nrows⟩ := D
  obtain ⟨bs, hb⟩ := hD.nxt
  simp only at hb
  obtain ⟨a, cap, rfl, hcap⟩ := hb.shape
  refine Ctr.enter Try.func28 (by kernel_rfl) rfl Try.ntmps28 rfl rfl ?_
  intro G F R hE
  refine K_ent (rd_o _ _ _ _ _ _ _ _ _ _ _ _ _ _ _ _) ?_
  cases down with
  | true =>
    (refine go ?_)
    refine K_return hE Try.func28 rfl _ rfl ⟨_, _, hD, rfl, rfl⟩ ((Ent.pick [0, 1, 2, 3, 4, 5, 6] rfl).trans (rd_c _ _ _ _ _ _ _ _ _ _ _ _ _ _ _ _))
  | false =>
    repeat' (first | (with_reducible intro _hh) | refine go1 ?_ | refine J_fork ?_ ?_ | refine J_gsP rfl rfl rfl rfl ?_ ?_ | refine K_condP rfl rfl ?_ ?_)
    · refine K_return hE Try.func28 rfl _ rfl ⟨_, _, hD, rfl, rfl⟩ ((Ent.pick [0, 1, 2, 3, 4, 5, 6] rfl).trans (rd_c _ _ _ _ _ _ _ _ _ _ _ _ _ _ _ _))
    obtain ⟨x, l, rfl⟩ := List.exists_cons_of_ne_nil (l := bs) (by rintro rfl; simp at *)
    have hv := hb.view 5
    obtain ⟨bb, oo, cc, hsl⟩ := hv.some (by simp [bV])
    simp only [Value.slice.injEq, true_and] at hsl
    obtain ⟨rfl, rfl⟩ := hsl
    refine J_at1 (U := tab) 0 rfl rfl rfl rfl rfl rfl rfl rfl (by simp) ?_
    (refine go ?_)
    refine J_loadV (U := tab) 1 rfl rfl rfl (hv.cell (i := 0) (c := u8 x) (by simp [bV])) rfl rfl ?_
    (refine go ?_)
    refine J_sliceAny (U := tab) (p := 1) (q := ((x :: l).length : Int)) rfl rfl rfl rfl rfl rfl rfl (by omega) (by simp; omega) (.inl rfl) ?_
    refine J_slot 25 (.slice (sliceAt (some ⟨bb, oo, none⟩) cap 1 1) l.length (cap - 1)) rfl (by simp only [List.length_cons, Int.toNat_natCast]; congr 1) ?_
    have hb2 := hb.cut 1 l.length (by simp; omega)
    have e : ((x :: l).drop 1).take l.length = l := by simp
    rw [e] at hb2
    repeat' (first | (with_reducible intro _hh) | refine go1 ?_ | refine J_fork ?_ ?_ | refine J_gsP rfl rfl rfl rfl ?_ ?_ | refine K_condP rfl rfl ?_ ?_)
    all_goals refine K_return hE Try.func28 rfl _ rfl ⟨_, _, hD.setNext _ hb2, rfl, rfl⟩ ((Ent.pick [0, 1, 2, 3, 4, 5, 6] rfl).trans (rd_c _ _ _ _ _ _ _ _ _ _ _ _ _ _ _ _))

/-- One of the names' files, or none. -/
theorem find_ref (br k : Nat) (D : RDk) (hD : ROk D k) (name : ByteArray) : Ctr Try.prog 29 [ptr br, .string name] [rd br D] (fun v H => ∃ r : Int, r < D.nowL.length ∧ -1 ≤ r ∧ v = .int .i64 r ∧ H = [rd br D]) := by
  obtain ⟨room, now, sure, lv, sts, wrs, nxt, down, nowL, sureL, stsL, wl, arrs, nrows⟩ := D
  obtain ⟨l, hl, hln, hlk⟩ := hD.l
  have hkk := hD.kk
  simp only at hl hln ⊢
  obtain ⟨a, cap, rfl, hcap⟩ := hl.shape
  have hv := hl.view 77
  refine Ctr.enter Try.func29 (by kernel_rfl) rfl Try.ntmps29 rfl rfl ?_
  intro G F R hE
  refine K_ent (rd_o _ _ _ _ _ _ _ _ _ _ _ _ _ _ _ _) ?_
  (refine go ?_)
  refine K_loop (fun i : Nat => i ≤ l.length) (fun i => l.length - i) (fun i => [(0, ptr br), (1, .string name), (5, .int .i64 i)])
    (fun _ => pts br (cl [.int .i64 room, now, sure, .slice a l.length cap, sts, wrs, nxt, .bool down] 61) :: arrS 5 arrs :: arrS 77 nrows ::
        slc 22 1 now nowL.length nowL :: slc 22 1 sure sureL.length sureL :: slc 58 1 sts stsL.length stsL :: slc 84 3 wrs wl.length (wl.flatMap wcell) :: F) 0 (Nat.zero_le _) rfl (by repeat (first | exact keep_nil | refine keep_cons rfl ?_)) (Ent.refl _) ?_
  intro i hi ih
  (refine go ?_)
  refine K_condP rfl rfl ?_ ?_
  · intro hlt
    have hi' : i < l.length := by omega
    obtain ⟨x, hx⟩ : ∃ x, l[i]? = some x := ⟨l[i], by simp⟩
    have hg : ∀ q, q < 2 → (l.flatMap ncell)[i * 2 + q]? = (ncell x)[q]? := fun q hq => chunk_get ncell_len hx q hq
    obtain ⟨bb, oo, cc, hsl⟩ := hv.some (by rw [← List.length_pos_iff, chunk_len ncell_len]; omega)
    simp only [Value.slice.injEq, true_and] at hsl
    obtain ⟨rfl, rfl⟩ := hsl
    (refine go ?_)
    refine J_at (U := tab) i 2 rfl rfl rfl rfl rfl rfl rfl rfl hi' ?_
    (refine go ?_)
    refine J_loadAt (U := tab) 2 (i * 2 + 0) rfl rfl rfl hv (Nat.add_assoc _ _ _) (hg 0 (by omega)) rfl rfl ?_
    (refine go ?_)
    refine K_condA rfl rfl ?_ ?_
    · intro he
      (refine go ?_)
      refine J_at (U := tab) i 2 rfl rfl rfl rfl rfl rfl rfl rfl hi' ?_
      (refine go ?_)
      refine J_loadAt (U := tab) 2 (i * 2 + 1) rfl rfl rfl hv (Nat.add_assoc _ _ _) (hg 1 (by omega)) rfl rfl ?_
      (refine go ?_)
      have := hln x (List.mem_of_getElem? hx)
      refine K_return hE Try.func29 rfl _ rfl ⟨_, by omega, by omega, rfl, rfl⟩ ((Ent.pick [0, 1, 2, 3, 4, 5, 6] rfl).trans (rd_c _ _ _ _ _ _ _ _ _ _ _ _ _ _ _ _))
    · intro he
      (refine go ?_)
      refine K_again ih (i + 1) rfl (by show i + 1 ≤ _; omega) (by omega) (by repeat (first | exact keep_nil | refine keep_cons rfl ?_)) (Ent.refl _)
  · intro hge
    (refine go ?_)
    refine K_return hE Try.func29 rfl _ rfl ⟨_, by omega, by omega, rfl, rfl⟩ ((Ent.pick [0, 1, 2, 3, 4, 5, 6] rfl).trans (rd_c _ _ _ _ _ _ _ _ _ _ _ _ _ _ _ _))

theorem cellsL_toArray' (l : List Value) : cellsL (Value.agg l.toArray) = l := rfl
/-- without: some of the names. -/
theorem without_ref (A : HP) (v : Value) (l : List Nm) (name : ByteArray) (hv : Vw A v l.length (l.flatMap ncell)) (hlk : l.length ≤ 1000000) :
    Ctr Try.prog 95 [v, .string name] [A] (fun r H => ∃ l' : List Nm, (∀ x ∈ l', x ∈ l) ∧ l'.length ≤ l.length ∧ H = [slc 77 2 r l'.length (l'.flatMap ncell), A]) := by
  obtain ⟨a, cap, rfl⟩ := hv.shape
  refine Ctr.enter Try.func95 (by kernel_rfl) rfl Try.ntmps95 rfl rfl ?_
  intro G F R hE
  (refine go ?_)
  refine K_ent (slc_lift 77 2 none _) ?_
  refine K_loop (fun s : Nat × List Nm × Option Addr × Nat => s.1 ≤ l.length ∧ (∀ x ∈ s.2.1, x ∈ l) ∧ s.2.1.length ≤ s.1) (fun s => l.length - s.1)
    (fun s => [(0, .slice a l.length cap), (1, .string name), (5, .slice s.2.2.1 s.2.1.length s.2.2.2), (6, .int .i64 s.1)])
    (fun s => slc 77 2 (.slice s.2.2.1 s.2.1.length s.2.2.2) s.2.1.length (s.2.1.flatMap ncell) :: A :: F) (0, [], none, 0) ⟨Nat.zero_le _, by simp, by simp⟩ rfl (by repeat (first | exact keep_nil | refine keep_cons rfl ?_)) (Ent.refl _) ?_
  rintro ⟨i, l', a', c'⟩ ⟨hi, hsub, hlen⟩ ih
  simp only at hi hsub hlen
  (refine go ?_)
  refine K_condP rfl rfl ?_ ?_
  · intro hlt
    simp only at hlt
    have hi' : i < l.length := by omega
    obtain ⟨x, hx⟩ : ∃ x, l[i]? = some x := ⟨l[i], by simp⟩
    have hg : ∀ q, q < 2 → (l.flatMap ncell)[i * 2 + q]? = (ncell x)[q]? := fun q hq => chunk_get ncell_len hx q hq
    obtain ⟨bb, oo, cc, hsl⟩ := hv.some (by rw [← List.length_pos_iff, chunk_len ncell_len]; omega)
    simp only [Value.slice.injEq, true_and] at hsl
    obtain ⟨rfl, rfl⟩ := hsl
    (refine go ?_)
    refine J_at (U := tab) i 2 rfl rfl rfl rfl rfl rfl rfl rfl hi' ?_
    (refine go ?_)
    refine J_loadAt (U := tab) 1 (i * 2 + 0) rfl rfl rfl hv (Nat.add_assoc _ _ _) (hg 0 (by omega)) rfl rfl ?_
    (refine go ?_)
    refine K_condA rfl rfl ?_ ?_
    · intro he
      (refine go ?_)
      refine J_at (U := tab) i 2 rfl rfl rfl rfl rfl rfl rfl rfl hi' ?_
      refine J_loadElem (U := tab) (es := ncell x) 1 (i * 2) rfl rfl rfl hv rfl (fun q v hq => ?_) rfl rfl rfl ?_
      · have hj2 : q < 2 := by
          rcases Nat.lt_or_ge q 2 with h | h
          · exact h
          · rw [List.getElem?_eq_none (by rw [ncell_len]; exact h)] at hq; cases hq
        rw [hg q hj2]; exact hq
      refine J_buildSlice1 (U := tab) (cs := ncell x) rfl rfl rfl rfl rfl rfl rfl rfl rfl (fun _ _ _ => trivial) ?_; intro b1; refine J_append (U := tab) (mm := 1) (news := ncell x) 1 0 rfl rfl rfl rfl rfl rfl rfl rfl rfl rfl rfl rfl (Vw.pts rfl) rfl (by simp [ncell, Value.oneCell']) (by simp only; omega) (by show _ * 24 ≤ _; simp only; omega) (fun _ => rfl) (fun _ _ _ => trivial) ?_; intro v'; rw [show List.flatMap ncell l' ++ ncell x = (l' ++ [x]).flatMap ncell from by simp, show List.length l' + 1 = (l' ++ [x]).length from by simp]; refine J_shape 1 rfl ?_; rintro a2 c2 rfl
      (refine go ?_)
      refine K_again ih (i + 1, l' ++ [x], a2, c2) rfl ⟨by simp only; omega, fun y hy => by (rcases List.mem_append.1 hy with h | h; exact hsub y h; simp only [List.mem_singleton] at h; subst h; exact List.mem_of_getElem? hx), by simp only [List.length_append, List.length_singleton]; omega⟩ (by simp only; omega) (by repeat (first | exact keep_nil | refine keep_cons rfl ?_)) (Ent.drop _ _)
    · intro he
      (refine go ?_)
      refine K_again ih (i + 1, l', a', c') rfl ⟨by simp only; omega, hsub, by simp only; omega⟩ (by simp only; omega) (by repeat (first | exact keep_nil | refine keep_cons rfl ?_)) (Ent.refl _)
  · intro hge
    (refine go ?_)
    refine K_return hE Try.func95 rfl _ rfl ⟨l', hsub, by omega, rfl⟩ (Ent.fin [0, 1] 0 rfl rfl)
/-- with: the names and one more. -/
theorem with_ref (A : HP) (v : Value) (l : List Nm) (x : Nm) (hv : Vw A v l.length (l.flatMap ncell)) (hlk : l.length ≤ 1000000) :
    Ctr Try.prog 31 [v, .agg (ncell x).toArray] [A] (fun r H => ∃ l' : List Nm, (∀ y ∈ l', y ∈ l ∨ y = x) ∧ l'.length ≤ l.length + 1 ∧ H = [slc 77 2 r l'.length (l'.flatMap ncell), A]) := by
  obtain ⟨a, cap, rfl⟩ := hv.shape
  refine Ctr.enter Try.func31 (by kernel_rfl) rfl Try.ntmps31 rfl rfl ?_
  intro G F R hE
  (refine go ?_)
  refine J_box rfl rfl (fun _ _ _ => trivial) ?_
  intro b0
  rw [cellsL_toArray']
  (refine go ?_)
  refine K_ent (slc_lift 77 2 none _) ?_
  refine K_loop (fun s : Nat × List Nm × Bool × Option Addr × Nat => s.1 ≤ l.length ∧ (∀ y ∈ s.2.1, y ∈ l ∨ y = x) ∧ s.2.1.length ≤ s.1 + s.2.2.1.toNat) (fun s => l.length - s.1)
    (fun s => [(0, .slice a l.length cap), (3, .pointer (some ⟨b0, 0, none⟩)), (5, .slice s.2.2.2.1 s.2.1.length s.2.2.2.2), (6, .bool s.2.2.1), (7, .int .i64 s.1)])
    (fun s => slc 77 2 (.slice s.2.2.2.1 s.2.1.length s.2.2.2.2) s.2.1.length (s.2.1.flatMap ncell) :: pts b0 (cl (ncell x) 77) :: A :: F) (0, [], false, none, 0) ⟨Nat.zero_le _, by simp, by simp⟩ rfl (by repeat (first | exact keep_nil | refine keep_cons rfl ?_)) (Ent.refl _) ?_
  rintro ⟨i, l', put, a', c'⟩ ⟨hi, hsub, hlen⟩ ih
  simp only at hi hsub hlen
  have hpb : put.toNat ≤ 1 := by cases put <;> simp
  (refine go ?_)
  refine K_condP rfl rfl ?_ ?_
  · intro hlt
    simp only at hlt
    have hi' : i < l.length := by omega
    obtain ⟨y, hy⟩ : ∃ y, l[i]? = some y := ⟨l[i], by simp⟩
    have hym := List.mem_of_getElem? hy
    have hg : ∀ q, q < 2 → (l.flatMap ncell)[i * 2 + q]? = (ncell y)[q]? := fun q hq => chunk_get ncell_len hy q hq
    obtain ⟨bb, oo, cc, hsl⟩ := hv.some (by rw [← List.length_pos_iff, chunk_len ncell_len]; omega)
    simp only [Value.slice.injEq, true_and] at hsl
    obtain ⟨rfl, rfl⟩ := hsl
    refine K_drawA (fun w => Sat G w ([pts b0 (cl (ncell x) 77), A])) (.st 0 (.st 1 (.st 2 (.st 3 (.st 4 (.st 5 (.st 6 (.st 7 (.st 8 (.st 9 (.st 10 (.st 11 .nil)))))))))))) rfl (by kernel_rfl) (by kernel_rfl) (by kernel_rfl) (fun w hw => hw.ent (Ent.pickOnly ([1, 2]) rfl)) ?_
    cases put with
    | true =>
      (refine go ?_)
      refine J_at (U := tab) i 2 rfl rfl rfl rfl rfl rfl rfl rfl hi' ?_
      (refine J_loadElem (U := tab) (es := ncell y) 2 (i * 2) rfl rfl rfl hv rfl (fun q v hq => (hg q (by rcases Nat.lt_or_ge q 2 with h | h; exact h; rw [List.getElem?_eq_none (by rw [ncell_len]; exact h)] at hq; cases hq)).trans hq) rfl rfl rfl ?_)
      refine J_buildSlice1 (U := tab) (cs := ncell y) rfl rfl rfl rfl rfl rfl rfl rfl rfl (fun _ _ _ => trivial) ?_; intro b1; refine J_append (U := tab) (mm := 1) (news := ncell y) 1 0 rfl rfl rfl rfl rfl rfl rfl rfl rfl rfl rfl rfl (Vw.pts rfl) rfl (by simp [ncell, Value.oneCell']) (by simp only; omega) (by show _ * 24 ≤ _; simp only; omega) (fun _ => rfl) (fun _ _ _ => trivial) ?_; intro v'; rw [show List.flatMap ncell l' ++ ncell y = (l' ++ [y]).flatMap ncell from by simp, show List.length l' + 1 = (l' ++ [y]).length from by simp]; refine J_shape 1 rfl ?_; rintro a2 c2 rfl
      (refine go ?_)
      refine K_again ih (i + 1, l' ++ [y], true, a2, c2) rfl ⟨by simp only; omega, fun z hz => by (rcases List.mem_append.1 hz with h | h; exact hsub z h; simp only [List.mem_singleton] at h; subst h; exact .inl hym), by simp only [List.length_append, List.length_singleton]; omega⟩ (by simp only; omega) (by repeat (first | exact keep_nil | refine keep_cons rfl ?_)) (Ent.drop _ _)
    | false =>
      (refine go ?_)
      refine J_at (U := tab) i 2 rfl rfl rfl rfl rfl rfl rfl rfl hi' ?_
      (refine go ?_)
      refine J_loadAtS (U := tab) 1 (i * 2 + 0) rfl rfl rfl hv (Nat.add_assoc _ _ _) (hg 0 (by omega)) rfl rfl ?_
      (refine go ?_)
      refine K_condA rfl rfl ?_ ?_
      · intro hgt
        (refine go ?_)
        refine J_loadElem (U := tab) (es := ncell x) (o := 0) (nn := 1) (cap := 1) 1 0 rfl rfl rfl (Vw.pts rfl) rfl (fun j v h => by simpa using h) rfl rfl rfl ?_
        refine J_buildSlice1 (U := tab) (cs := ncell x) rfl rfl rfl rfl rfl rfl rfl rfl rfl (fun _ _ _ => trivial) ?_; intro b1; refine J_append (U := tab) (mm := 1) (news := ncell x) 1 0 rfl rfl rfl rfl rfl rfl rfl rfl rfl rfl rfl rfl (Vw.pts rfl) rfl (by simp [ncell, Value.oneCell']) (by simp only; omega) (by show _ * 24 ≤ _; simp only; omega) (fun _ => rfl) (fun _ _ _ => trivial) ?_; intro v'; rw [show List.flatMap ncell l' ++ ncell x = (l' ++ [x]).flatMap ncell from by simp, show List.length l' + 1 = (l' ++ [x]).length from by simp]; refine J_shape 1 rfl ?_; rintro a2 c2 rfl
        refine J_ent (Ent.drop _ _) ?_
        (refine go ?_)
        refine J_at (U := tab) i 2 rfl rfl rfl rfl rfl rfl rfl rfl hi' ?_
        (refine J_loadElem (U := tab) (es := ncell y) 2 (i * 2) rfl rfl rfl hv rfl (fun q v hq => (hg q (by rcases Nat.lt_or_ge q 2 with h | h; exact h; rw [List.getElem?_eq_none (by rw [ncell_len]; exact h)] at hq; cases hq)).trans hq) rfl rfl rfl ?_)
        have hlen2 : (l' ++ [x]).length = l'.length + 1 := by simp
        refine J_buildSlice1 (U := tab) (cs := ncell y) rfl rfl rfl rfl rfl rfl rfl rfl rfl (fun _ _ _ => trivial) ?_
        intro b2
        simp only [Bool.toNat_false] at hlen
        refine J_append (U := tab) (mm := 1) (news := ncell y) 1 0 rfl rfl rfl rfl rfl rfl rfl rfl rfl rfl rfl rfl (Vw.pts rfl) rfl (by simp [ncell, Value.oneCell']) (by rw [hlen2]; omega) (by show _ * 24 ≤ _; rw [hlen2]; omega) (fun _ => rfl) (fun _ _ _ => trivial) ?_
        intro v''
        rw [show List.flatMap ncell (l' ++ [x]) ++ ncell y = (l' ++ [x] ++ [y]).flatMap ncell from by simp, show List.length (l' ++ [x]) + 1 = (l' ++ [x] ++ [y]).length from by simp]
        refine J_shape 1 rfl ?_
        rintro a3 c3 rfl
        (refine go ?_)
        refine K_again ih (i + 1, l' ++ [x] ++ [y], true, a3, c3) rfl ⟨by simp only; omega, fun z hz => by (simp only [List.mem_append, List.mem_singleton] at hz; rcases hz with (h | h) | h; exact hsub z h; exact .inr h; exact .inl (h ▸ hym)), by simp only [List.length_append, List.length_singleton, Bool.toNat_true]; omega⟩ (by simp only; omega) (by repeat (first | exact keep_nil | refine keep_cons rfl ?_)) (Ent.drop _ _)
      · intro hle
        (refine go ?_)
        refine J_at (U := tab) i 2 rfl rfl rfl rfl rfl rfl rfl rfl hi' ?_
        (refine J_loadElem (U := tab) (es := ncell y) 2 (i * 2) rfl rfl rfl hv rfl (fun q v hq => (hg q (by rcases Nat.lt_or_ge q 2 with h | h; exact h; rw [List.getElem?_eq_none (by rw [ncell_len]; exact h)] at hq; cases hq)).trans hq) rfl rfl rfl ?_)
        refine J_buildSlice1 (U := tab) (cs := ncell y) rfl rfl rfl rfl rfl rfl rfl rfl rfl (fun _ _ _ => trivial) ?_; intro b1; refine J_append (U := tab) (mm := 1) (news := ncell y) 1 0 rfl rfl rfl rfl rfl rfl rfl rfl rfl rfl rfl rfl (Vw.pts rfl) rfl (by simp [ncell, Value.oneCell']) (by simp only; omega) (by show _ * 24 ≤ _; simp only; omega) (fun _ => rfl) (fun _ _ _ => trivial) ?_; intro v'; rw [show List.flatMap ncell l' ++ ncell y = (l' ++ [y]).flatMap ncell from by simp, show List.length l' + 1 = (l' ++ [y]).length from by simp]; refine J_shape 1 rfl ?_; rintro a2 c2 rfl
        (refine go ?_)
        refine K_again ih (i + 1, l' ++ [y], false, a2, c2) rfl ⟨by simp only; omega, fun z hz => by (rcases List.mem_append.1 hz with h | h; exact hsub z h; simp only [List.mem_singleton] at h; subst h; exact .inl hym), by simp only [List.length_append, List.length_singleton]; omega⟩ (by simp only; omega) (by repeat (first | exact keep_nil | refine keep_cons rfl ?_)) (Ent.drop _ _)
  · intro hge
    simp only at hge
    cases put with
    | true =>
      (refine go ?_)
      refine K_return hE Try.func31 rfl _ rfl ⟨l', hsub, by simp only [Bool.toNat_true] at hlen; omega, rfl⟩ (Ent.fin [0, 2] 1 rfl rfl)
    | false =>
      simp only [Bool.toNat_false] at hlen
      (refine go ?_)
      refine J_loadElem (U := tab) (es := ncell x) (o := 0) (nn := 1) (cap := 1) 1 0 rfl rfl rfl (Vw.pts rfl) rfl (fun j v h => by simpa using h) rfl rfl rfl ?_
      refine J_buildSlice1 (U := tab) (cs := ncell x) rfl rfl rfl rfl rfl rfl rfl rfl rfl (fun _ _ _ => trivial) ?_; intro b1; refine J_append (U := tab) (mm := 1) (news := ncell x) 1 0 rfl rfl rfl rfl rfl rfl rfl rfl rfl rfl rfl rfl (Vw.pts rfl) rfl (by simp [ncell, Value.oneCell']) (by simp only; omega) (by show _ * 24 ≤ _; simp only; omega) (fun _ => rfl) (fun _ _ _ => trivial) ?_; intro v'; rw [show List.flatMap ncell l' ++ ncell x = (l' ++ [x]).flatMap ncell from by simp, show List.length l' + 1 = (l' ++ [x]).length from by simp]; refine J_shape 1 rfl ?_; rintro a2 c2 rfl
      (refine go ?_)
      refine K_return hE Try.func31 rfl _ rfl ⟨l' ++ [x], fun z hz => by (rcases List.mem_append.1 hz with h | h; exact hsub z h; simp only [List.mem_singleton] at h; exact .inr h), by simp only [List.length_append, List.length_singleton]; omega, rfl⟩ (Ent.fin [1, 3] 2 rfl rfl)

/-- named: the names are these from now on. -/
theorem named_ref (br k : Nat) (D : RDk) (hD : ROk D k) (hk : k + 1 ≤ 100000) (v : Value) (hv : NOk D.nrows D.nowL.length (k + 1) v) :
    Ctr Try.prog 30 [ptr br, v] [rd br D] (fun _ H => ∃ D', ROk D' (k + 1) ∧ H = [rd br D']) := by
  obtain ⟨room, now, sure, lv, sts, wrs, nxt, down, nowL, sureL, stsL, wl, arrs, nrows⟩ := D
  have hsk := hD.sk
  simp only at hv hsk ⊢
  obtain ⟨l, hl, hln, hlk⟩ := hv
  obtain ⟨a, cap, rfl, hcap⟩ := hl.shape
  refine Ctr.enter Try.func30 (by kernel_rfl) rfl Try.ntmps30 rfl rfl ?_
  intro G F R hE
  refine K_ent (rd_o _ _ _ _ _ _ _ _ _ _ _ _ _ _ _ _) ?_
  refine K_shape 5 rfl ?_
  rintro sa sc rfl
  (refine go ?_)
  refine J_buildSlice1 (U := tab) rfl rfl rfl rfl rfl rfl rfl rfl rfl (fun _ _ _ => trivial) ?_
  intro b0
  (refine go ?_)
  refine J_ent (slc_row 58 1 b0 0 0 [] [] _ rfl (Nat.le_refl _) (by simp)) ?_
  refine J_slcVw 6 rfl ?_
  intro hvs
  have hone : ∀ u ∈ stsL, u.oneCell' = true := fun u hu => by
    obtain ⟨_, h, _⟩ := hD.sts u hu
    obtain ⟨_, _, rfl, _⟩ := h.shape; rfl
  refine J_append (U := tab) (mm := stsL.length) (news := stsL) 0 6 rfl rfl rfl rfl rfl rfl rfl rfl rfl rfl rfl rfl hvs (by show _ = _ * 1; omega) hone (by omega) (by show _ * 24 ≤ _; omega) (fun _ => rfl) (fun _ _ _ => trivial) ?_
  intro v1
  have e1 : (0 : Nat) + stsL.length = stsL.length := by omega
  rw [e1, List.nil_append]
  refine J_shape 0 rfl ?_
  rintro a1 c1 rfl
  (refine go ?_)
  refine J_buildSlice1 (U := tab) rfl rfl rfl rfl rfl rfl rfl rfl rfl (fun _ _ _ => trivial) ?_
  intro b1
  refine J_append (U := tab) (mm := 1) (news := [.slice a l.length cap]) 1 0 rfl rfl rfl rfl rfl rfl rfl rfl rfl rfl rfl rfl (Vw.pts rfl) rfl (by simp [Value.oneCell']) (by omega) (by show _ * 24 ≤ _; omega) (fun _ => rfl) (fun _ _ _ => trivial) ?_
  intro v2
  have e2 : stsL.length + 1 = (stsL ++ [Value.slice a l.length cap]).length := by simp
  rw [e2]
  refine J_shape 1 rfl ?_
  rintro a2 c2 rfl
  (refine go ?_)
  (refine K_ent (Ent.pick ([2, 3, 4, 5, 6, 1, 8]) rfl) ?_; refine K_ent (rd_c _ _ _ _ _ _ _ _ _ _ _ _ _ _ _ _) ?_)
  have hD2 : ROk ⟨room, now, sure, .slice a l.length cap, .slice a2 (stsL ++ [Value.slice a l.length cap]).length c2, wrs, nxt, down, nowL, sureL, stsL ++ [Value.slice a l.length cap], wl, arrs, nrows⟩ (k + 1) :=
    { nl := hD.nl, nk := Nat.le_succ_of_le hD.nk, now := hD.now, sure := hD.sure, l := ⟨l, hl, hln, hlk⟩
      sts := fun v hv => by
        rcases List.mem_append.1 hv with h | h
        · exact (hD.sts v h).mono (fun _ h => h) (Nat.le_refl _) (Nat.le_succ _)
        · simp only [List.mem_singleton] at h; subst h; exact ⟨l, hl, hln, hlk⟩
      full := by simp, sk := by simp only [List.length_append, List.length_singleton]; omega, wr := hD.wr, wk := Nat.le_succ_of_le hD.wk, nxt := hD.nxt, kk := hk }
  refine K_fallEnd hE Try.func30 rfl _ rfl ⟨_, hD2, rfl⟩ (Ent.fin [0] 2 rfl rfl)

/-- Used: some number. -/
theorem Used_ref (br k : Nat) (D : RDk) (hD : ROk D k) : Ctr Try.prog 37 [ptr br] [rd br D] (fun v H => ∃ r : Nat, r ≤ k * 1048576 ∧ v = .int .i64 (r : Int) ∧ H = [rd br D]) := by
  obtain ⟨room, now, sure, lv, sts, wrs, nxt, down, nowL, sureL, stsL, wl, arrs, nrows⟩ := D
  obtain ⟨l, hl, hln, hlk⟩ := hD.l
  have hkk := hD.kk
  have hnow := hD.now
  simp only at hl hln hnow ⊢
  obtain ⟨a, cap, rfl, hcap⟩ := hl.shape
  have hv := hl.view 77
  refine Ctr.enter Try.func37 (by kernel_rfl) rfl Try.ntmps37 rfl rfl ?_
  intro G F R hE
  (refine K_ent (rd_o _ _ _ _ _ _ _ _ _ _ _ _ _ _ _ _) ?_)
  refine K_shape 3 rfl ?_
  rintro na nc rfl
  (refine go ?_)
  refine K_loop (fun s : Nat × Nat => s.1 ≤ l.length ∧ s.2 ≤ s.1 * 1048576) (fun s => l.length - s.1) (fun s => [(0, ptr br), (3, .int .i64 s.2), (4, .int .i64 s.1)])
    (fun _ => pts br (cl [.int .i64 room, .slice na nowL.length nc, sure, .slice a l.length cap, sts, wrs, nxt, .bool down] 61) :: arrS 5 arrs :: arrS 77 nrows ::
        slc 22 1 (.slice na nowL.length nc) nowL.length nowL :: slc 22 1 sure sureL.length sureL :: slc 58 1 sts stsL.length stsL :: slc 84 3 wrs wl.length (wl.flatMap wcell) :: F) (0, 0) ⟨Nat.zero_le _, by simp⟩ rfl (by repeat (first | exact keep_nil | refine keep_cons rfl ?_)) (Ent.refl _) ?_
  rintro ⟨i, u⟩ ⟨hi, hu⟩ ih
  simp only at hi hu
  (refine go ?_)
  refine K_condP rfl rfl ?_ ?_
  · intro hlt
    simp only at hlt
    have hi' : i < l.length := by omega
    obtain ⟨x, hx⟩ : ∃ x, l[i]? = some x := ⟨l[i], by simp⟩
    have hg : ∀ q, q < 2 → (l.flatMap ncell)[i * 2 + q]? = (ncell x)[q]? := fun q hq => chunk_get ncell_len hx q hq
    obtain ⟨bb, oo, cc, hsl⟩ := hv.some (by rw [← List.length_pos_iff, chunk_len ncell_len]; omega)
    simp only [Value.slice.injEq, true_and] at hsl
    obtain ⟨rfl, rfl⟩ := hsl
    have hxn := hln x (List.mem_of_getElem? hx)
    obtain ⟨bv, hbv⟩ : ∃ v, nowL[x.2]? = some v := ⟨nowL[x.2], by simp⟩
    obtain ⟨bs, hbs, hbl⟩ := hnow bv (List.mem_of_getElem? hbv)
    obtain ⟨ba, bc, rfl, _⟩ := hbs.shape
    refine K_ent (Ent.refl _) ?_
    refine K_slcVw 3 rfl ?_
    intro hvn
    obtain ⟨nb, no, nc', hns⟩ := hvn.some (by rw [← List.length_pos_iff]; omega)
    simp only [Value.slice.injEq, true_and] at hns
    obtain ⟨rfl, rfl⟩ := hns
    refine K_drawA (fun w => Sat G w ([pts br (cl [.int .i64 room, .slice (some ⟨nb, no, none⟩) nowL.length nc, sure, .slice (some ⟨bb, oo, none⟩) l.length cap, sts, wrs, nxt, .bool down] 61), arrS 77 nrows, slc 22 1 (.slice (some ⟨nb, no, none⟩) nowL.length nc) nowL.length nowL])) (.st 0 (.st 1 (.st 2 (.st 3 (.st 4 (.st 5 (.st 6 (.st 7 (.st 8 (.st 9 (.st 10 (.st 11 (.st 12 (.st 13 (.st 14 (.st 15 (.st 16 (.st 17 .nil)))))))))))))))))) rfl (by kernel_rfl) (by kernel_rfl) (by kernel_rfl) (fun w hw => hw.ent (Ent.pickOnly ([0, 2, 3]) rfl)) ?_
    (refine go ?_)
    refine J_at (U := tab) i 2 rfl rfl rfl rfl rfl rfl rfl rfl hi' ?_
    (refine go ?_)
    refine J_loadAtS (U := tab) 1 (i * 2 + 1) rfl rfl rfl hv (Nat.add_assoc _ _ _) (hg 1 (by omega)) rfl rfl ?_
    (refine go ?_)
    refine J_at1 (U := tab) x.2 rfl rfl rfl rfl rfl rfl rfl rfl hxn ?_
    (refine go ?_)
    refine J_loadAtS (U := tab) 2 x.2 rfl rfl rfl hvn rfl hbv rfl rfl ?_
    (refine go ?_)
    refine K_again ih (i + 1, u + bs.length) rfl ⟨by simp only; omega, by simp only; omega⟩ (by simp only; omega) (by repeat (first | exact keep_nil | refine keep_cons rfl ?_)) (Ent.refl _)
  · intro hge
    simp only at hge
    have hub := Nat.le_trans hu (Nat.mul_le_mul_right _ (Nat.le_trans hi hlk))
    (refine go ?_)
    refine K_return hE Try.func37 rfl _ rfl ⟨u, hub, rfl, rfl⟩ ((Ent.pick [0, 1, 2, 3, 4, 5, 6] rfl).trans (rd_c _ _ _ _ _ _ _ _ _ _ _ _ _ _ _ _))
end Go.Proofs.Ytpdmbmnhgcnelaa

/- the reference's disk, part m: its plain model, how it lies in memory. -/
set_option linter.unusedVariables false
set_option linter.unusedSimpArgs false
namespace Go.Proofs.Ytpdmbmnhgcnelaa
open Go Go.SL
structure RM where
  room : Int
  now : List (List UInt8)
  sure : List (List UInt8)
  l : List Nm
  sts : List (List Nm)
  wr : List (Nat × Nat × List UInt8)
  nxt : List UInt8
  down : Bool
namespace RM
def may (m : RM) : Nat × RM := if m.down = true then (7, m) else match m.nxt with
  | [] => (0, m)
  | x :: p => if x = 1 then (6, { m with nxt := p }) else if x = 2 then (7, { m with nxt := p, down := true }) else (0, { m with nxt := p })
def find (m : RM) (name : ByteArray) : Option Nat := (m.l.find? fun x => decide (x.1 = name)).map (·.2)
def without (l : List Nm) (name : ByteArray) : List Nm := l.filter fun x => !decide (x.1 = name)
def with_ (l : List Nm) (x : Nm) : List Nm := match l with
  | [] => [x]
  | y :: l => if (!(ltS y.1 x.1 || eqS y.1 x.1)) = true then x :: y :: l else y :: with_ l x
def named (m : RM) (l : List Nm) : RM := { m with l := l, sts := m.sts ++ [l] }
def file (m : RM) (f : Nat) : List UInt8 := m.now.getD f []
def used (m : RM) : Nat := (m.l.map fun x => (m.file x.2).length).sum
def create (m : RM) (ok : Bool) (name : ByteArray) : Nat × RM :=
  if ok = false then (1, m) else if m.may.1 ≠ 0 then m.may else if (m.may.2.find name).isSome = true then (5, m.may.2) else if 200 ≤ m.may.2.l.length then (3, m.may.2)
  else (0, ({ m.may.2 with now := m.may.2.now ++ [[]], sure := m.may.2.sure ++ [[]] } : RM).named (with_ m.may.2.l (name, m.may.2.now.length)))
def write (m : RM) (ok : Bool) (name : ByteArray) (at_ : Nat) (b : List UInt8) : Nat × RM :=
  if ok = false then (1, m) else if m.may.1 ≠ 0 then m.may else match m.may.2.find name with
  | none => (4, m.may.2)
  | some f => if m.may.2.room < (m.may.2.used : Int) - (m.may.2.file f).length + (wroteL (m.may.2.file f) at_ b).length then (3, m.may.2)
    else (0, { m.may.2 with now := m.may.2.now.set f (wroteL (m.may.2.file f) at_ b), wr := m.may.2.wr ++ [(f, at_, b)] })
def sync (m : RM) (ok : Bool) (name : ByteArray) : Nat × RM :=
  if ok = false then (1, m) else if m.may.1 ≠ 0 then m.may else match m.may.2.find name with
  | none => (4, m.may.2)
  | some f => (0, { m.may.2 with sure := m.may.2.sure.set f (m.may.2.file f), wr := m.may.2.wr.filter fun x => !decide (x.1 = f) })
def rename (m : RM) (ok : Bool) (old name : ByteArray) : Nat × RM :=
  if ok = false then (1, m) else if m.may.1 ≠ 0 then m.may else match m.may.2.find old with
  | none => (4, m.may.2)
  | some f => (0, m.may.2.named (with_ (without (without m.may.2.l old) name) (name, f)))
def remove (m : RM) (ok : Bool) (name : ByteArray) : Nat × RM :=
  if ok = false then (1, m) else if m.may.1 ≠ 0 then m.may else match m.may.2.find name with
  | none => (4, m.may.2)
  | some _ => (0, m.may.2.named (without m.may.2.l name))
def syncNames (m : RM) : Nat × RM := if m.may.1 ≠ 0 then m.may else (0, { m.may.2 with sts := [m.may.2.l] })
def size (m : RM) (name : ByteArray) : Nat × Nat := match m.find name with
  | none => (0, 4)
  | some f => ((m.file f).length, 0)
def read (m : RM) (name : ByteArray) (at_ n : Int) : List UInt8 × Nat := if m.down = true then ([], 7) else match m.find name with
  | none => ([], 4)
  | some f => if at_ < 0 ∨ n < 0 ∨ ((m.file f).length : Int) < at_ ∨ ((m.file f).length : Int) - at_ < n then ([], 1) else (((m.file f).drop at_.toNat).take n.toNat, 0)
end RM
/-- How a disk of the reference lies in memory. -/
structure RR (D : RDk) (m : RM) : Prop where
  room : D.room = m.room
  down : D.down = m.down
  nxt : BIn D.arrs D.nxt m.nxt
  now : All2 (fun v b => BIn D.arrs v b) D.nowL m.now
  sure : All2 (fun v b => BIn D.arrs v b) D.sureL m.sure
  l : RIn D.nrows 2 D.lv m.l.length (m.l.flatMap ncell)
  sts : All2 (fun v l => RIn D.nrows 2 v l.length (l.flatMap ncell)) D.stsL m.sts
  wr : All2 (fun x y => x.1 = y.1 ∧ x.2.1 = y.2.1 ∧ BIn D.arrs x.2.2 y.2.2) D.wl m.wr
/-- What is so of its numbers; k: how often something was done at most. -/
structure MOk (m : RM) (k : Nat) : Prop where
  nl : m.sure.length = m.now.length
  nk : m.now.length ≤ k
  now : ∀ b ∈ m.now, b.length ≤ 1048576
  sure : ∀ b ∈ m.sure, b.length ≤ 1048576
  l : ∀ x ∈ m.l, x.2 < m.now.length
  ll : m.l.length ≤ k
  sts : ∀ st ∈ m.sts, (∀ x ∈ st, x.2 < m.now.length) ∧ st.length ≤ k
  full : m.sts ≠ []
  sk : m.sts.length ≤ k + 1
  wr : ∀ x ∈ m.wr, x.1 < m.now.length ∧ x.2.1 + x.2.2.length ≤ 1048576
  wk : m.wr.length ≤ k
  kk : k ≤ 100000
  room : m.room ≤ 1073741824
theorem RR.down' {D : RDk} {m : RM} (h : RR D m) {nxt : Value} {p : List UInt8} (b : Bool) (hb : BIn D.arrs nxt p) : RR { D with nxt := nxt, down := b } { m with nxt := p, down := b } := ⟨h.room, rfl, hb, h.now, h.sure, h.l, h.sts, h.wr⟩
theorem RR.setN {D : RDk} {m : RM} (h : RR D m) {nxt : Value} {p : List UInt8} (hb : BIn D.arrs nxt p) : RR { D with nxt := nxt } { m with nxt := p } := ⟨h.room, h.down, hb, h.now, h.sure, h.l, h.sts, h.wr⟩
theorem RM.may_same (m : RM) : m.may.2.now = m.now ∧ m.may.2.sure = m.sure ∧ m.may.2.l = m.l ∧ m.may.2.sts = m.sts ∧ m.may.2.wr = m.wr ∧ m.may.2.room = m.room := by
  unfold RM.may
  split
  · simp
  · split
    · simp
    · split
      · simp
      · split <;> simp
theorem MOk.may {m : RM} {k : Nat} (h : MOk m k) : MOk m.may.2 k := by
  obtain ⟨h1, h2, h3, h4, h5, h6⟩ := m.may_same
  exact ⟨by rw [h1, h2]; exact h.nl, by rw [h1]; exact h.nk, by rw [h1]; exact h.now, by rw [h2]; exact h.sure, by rw [h1, h3]; exact h.l, by rw [h3]; exact h.ll, by rw [h1, h4]; exact h.sts, by rw [h4]; exact h.full, by rw [h4]; exact h.sk, by rw [h1, h5]; exact h.wr, by rw [h5]; exact h.wk, h.kk, by rw [h6]; exact h.room⟩
attribute [local irreducible] J K Ctr Ends pts slc mapR mapI sbRow stock arrS

set_option maxRecDepth 20000 in
theorem mMay_any (br : Nat) (D : RDk) (m : RM) (hR : RR D m) : Ctr Try.prog 28 [ptr br] [rd br D] (fun v H => ∃ D', RR D' m.may.2 ∧ v = .int .i64 (m.may.1 : Int) ∧ H = [rd br D']) := by
  obtain ⟨room, now, sure, lv, sts, wrs, nxt, down, nowL, sureL, stsL, wl, arrs, nrows⟩ := D
  have hb := hR.nxt
  have hd := hR.down
  simp only at hb hd
  obtain ⟨a, cap, rfl, hcap⟩ := hb.shape
  refine Ctr.enter Try.func28 (by kernel_rfl) rfl Try.ntmps28 rfl rfl ?_
  intro G F R hE
  refine K_ent (rd_o _ _ _ _ _ _ _ _ _ _ _ _ _ _ _ _) ?_
  cases down with
  | true =>
    have hm : m.may = (7, m) := by unfold RM.may; rw [if_pos hd.symm]
    rw [hm] at hE
    (refine go ?_)
    refine K_return hE Try.func28 rfl _ rfl ⟨_, hR, rfl, rfl⟩ ((Ent.pick [0, 1, 2, 3, 4, 5, 6] rfl).trans (rd_c _ _ _ _ _ _ _ _ _ _ _ _ _ _ _ _))
  | false =>
    by_cases hx : m.nxt = []
    · have hm : m.may = (0, m) := by unfold RM.may; rw [if_neg (by rw [← hd]; simp), hx]
      rw [hm] at hE
      repeat' (first | (with_reducible intro _hh) | refine go1 ?_ | refine J_fork ?_ ?_ | refine J_gsP rfl rfl rfl rfl ?_ ?_ | refine K_condP rfl rfl ?_ ?_)
      · refine K_return hE Try.func28 rfl _ rfl ⟨_, hR, rfl, rfl⟩ ((Ent.pick [0, 1, 2, 3, 4, 5, 6] rfl).trans (rd_c _ _ _ _ _ _ _ _ _ _ _ _ _ _ _ _))
      all_goals (exfalso; exact _hh (by rw [hx]; rfl))
    obtain ⟨x, p, hxp⟩ := List.exists_cons_of_ne_nil hx
    have hm : m.may = if x = 1 then (6, { m with nxt := p }) else if x = 2 then (7, { m with nxt := p, down := true }) else (0, { m with nxt := p }) := by unfold RM.may; rw [if_neg (by rw [← hd]; simp), hxp]
    have hlen : m.nxt.length = p.length + 1 := by rw [hxp]; rfl
    have hb' : BIn arrs (.slice a m.nxt.length cap) (x :: p) := by rw [← hxp]; exact hb
    have hv := hb'.view 5
    obtain ⟨bb, oo, cc, hsl⟩ := hv.some (by simp [bV])
    simp only [Value.slice.injEq] at hsl
    obtain ⟨rfl, -, rfl⟩ := hsl
    have hb2 := hb'.cut 1 p.length (by simp; omega)
    rw [show ((x :: p).drop 1).take p.length = p from by simp] at hb2
    repeat' (first | (with_reducible intro _hh) | refine go1 ?_ | refine J_fork ?_ ?_ | refine J_gsP rfl rfl rfl rfl ?_ ?_ | refine K_condP rfl rfl ?_ ?_)
    · exfalso; exact hx (List.eq_nil_of_length_eq_zero (by omega))
    refine J_at1 (U := tab) 0 rfl rfl rfl rfl rfl rfl rfl rfl (by omega) ?_
    (refine go ?_)
    refine J_loadV (U := tab) 1 rfl rfl rfl (Vw.cell (cap := cap) (n := (x :: p).length) (cs := bV (x :: p)) (by have := hv; rw [hxp] at this; exact this) (i := 0) (c := u8 x) (by simp [bV])) rfl rfl ?_
    (refine go ?_)
    refine J_sliceAny (U := tab) (p := 1) (q := (m.nxt.length : Int)) rfl rfl rfl rfl rfl rfl rfl (by omega) (by omega) (.inl rfl) ?_
    refine J_slot 25 (.slice (sliceAt (some ⟨bb, oo, none⟩) cap 1 1) p.length (cap - 1)) rfl (by rw [hlen]; simp only [Int.toNat_natCast]; congr 1) ?_
    (refine go ?_)
    refine K_condP rfl rfl ?_ ?_
    · intro hx1
      rw [hm, if_pos (u8_inj hx1)] at hE
      (refine go ?_)
      refine K_return hE Try.func28 rfl _ rfl ⟨_, hR.setN hb2, rfl, rfl⟩ ((Ent.pick [0, 1, 2, 3, 4, 5, 6] rfl).trans (rd_c _ _ _ _ _ _ _ _ _ _ _ _ _ _ _ _))
    intro hx1
    have hx1' : x ≠ 1 := fun h => hx1 (by rw [h]; rfl)
    (refine go ?_)
    refine K_condP rfl rfl ?_ ?_
    · intro hx2
      rw [hm, if_neg hx1', if_pos (u8_inj hx2)] at hE
      (refine go ?_)
      refine K_return hE Try.func28 rfl _ rfl ⟨_, hR.down' true hb2, rfl, rfl⟩ ((Ent.pick [0, 1, 2, 3, 4, 5, 6] rfl).trans (rd_c _ _ _ _ _ _ _ _ _ _ _ _ _ _ _ _))
    intro hx2
    have hx2' : x ≠ 2 := fun h => hx2 (by rw [h]; rfl)
    rw [hm, if_neg hx1', if_neg hx2'] at hE
    (refine go ?_)
    refine K_return hE Try.func28 rfl _ rfl ⟨_, hR.setN hb2, rfl, rfl⟩ ((Ent.pick [0, 1, 2, 3, 4, 5, 6] rfl).trans (rd_c _ _ _ _ _ _ _ _ _ _ _ _ _ _ _ _))
end Go.Proofs.Ytpdmbmnhgcnelaa

/- the two disks, plain: the program's and the reference's do the same. -/
set_option linter.unusedVariables false
set_option linter.unusedSimpArgs false
namespace Go.Proofs.Ytpdmbmnhgcnelaa
open Go Go.SL
def NR (σ : Nat → Nat) (l : List (ByteArray × Nat)) (l' : List Nm) : Prop := (l.map fun x => ((x.1, σ x.2) : Nm)).Perm l' ∧ (l.map (·.1)).Nodup
theorem look_iff {l : List (ByteArray × Nat)} (hn : (l.map (·.1)).Nodup) (name : ByteArray) (v : Nat) : (l.find? fun x => decide (x.1 = name)).map (·.2) = some v ↔ (name, v) ∈ l := by
  induction l with
  | nil => simp
  | cons x l ih =>
    rw [List.map_cons, List.nodup_cons] at hn
    rw [List.find?_cons]
    by_cases h : x.1 = name
    · simp only [h, decide_true, Option.map_some, Option.some.injEq]
      constructor
      · rintro rfl; rw [← h]; exact List.mem_cons_self ..
      · intro hm
        rcases List.mem_cons.1 hm with hm | hm
        · rw [← hm]
        · exact absurd (List.mem_map.2 ⟨(name, v), hm, rfl⟩) (by rw [← h]; exact hn.1)
    · simp only [h, decide_false]
      rw [ih hn.2, List.mem_cons]
      constructor
      · exact .inr
      · rintro (rfl | hm)
        · exact absurd rfl h
        · exact hm
theorem NR.keys {σ : Nat → Nat} {l : List (ByteArray × Nat)} {l' : List Nm} (h : NR σ l l') : (l.map (·.1)).Perm (l'.map (·.1)) := by
  have := h.1.map (·.1)
  rwa [List.map_map] at this
theorem NR.nodup' {σ : Nat → Nat} {l : List (ByteArray × Nat)} {l' : List Nm} (h : NR σ l l') : (l'.map (·.1)).Nodup := h.keys.nodup_iff.1 h.2
theorem NR.len {σ : Nat → Nat} {l : List (ByteArray × Nat)} {l' : List Nm} (h : NR σ l l') : l.length = l'.length := by simpa using h.1.length_eq
theorem NR.find {σ : Nat → Nat} {l : List (ByteArray × Nat)} {l' : List Nm} (h : NR σ l l') (name : ByteArray) : (l'.find? fun x => decide (x.1 = name)).map (·.2) = (Ab.lookIn l name).map σ := by
  apply Option.ext
  intro v
  rw [look_iff h.nodup' name v, Option.map_eq_some_iff, ← h.1.mem_iff, List.mem_map]
  constructor
  · rintro ⟨x, hx, he⟩
    obtain ⟨x1, x2⟩ := x
    simp only [Prod.mk.injEq] at he
    obtain ⟨rfl, rfl⟩ := he
    exact ⟨x2, (look_iff h.2 _ _).2 hx, rfl⟩
  · rintro ⟨f, hf, rfl⟩
    exact ⟨(name, f), (look_iff h.2 _ _).1 hf, rfl⟩
theorem with_perm (l : List Nm) (x : Nm) : (RM.with_ l x).Perm (x :: l) := by
  induction l with
  | nil => exact List.Perm.refl _
  | cons y l ih =>
    unfold RM.with_
    split
    · exact List.Perm.refl _
    · exact (ih.cons y).trans (List.Perm.swap _ _ _)
theorem NR.cons {σ : Nat → Nat} {l : List (ByteArray × Nat)} {l' : List Nm} (h : NR σ l l') {nm : List (ByteArray × Nat)} {k : ByteArray} {f : Nat} (hp : nm.Perm ((k, f) :: l)) (hk : k ∉ l.map (·.1)) : NR σ nm (RM.with_ l' (k, σ f)) :=
  ⟨by
    have h1 := hp.map (fun x => ((x.1, σ x.2) : Nm))
    rw [List.map_cons] at h1
    exact (h1.trans (h.1.cons (k, σ f))).trans (with_perm _ _).symm, (hp.map (·.1)).nodup_iff.2 (by rw [List.map_cons, List.nodup_cons]; exact ⟨hk, h.2⟩)⟩
theorem NR.del {σ : Nat → Nat} {l : List (ByteArray × Nat)} {l' : List Nm} (h : NR σ l l') (k : ByteArray) : NR σ (Ab.delN l k) (RM.without l' k) := by
  refine ⟨?_, ?_⟩
  · unfold Ab.delN RM.without
    have h1 := h.1.filter (fun x => !decide (x.1 = k))
    rw [List.filter_map] at h1
    exact h1
  · exact h.2.sublist (List.Sublist.map _ List.filter_sublist)
theorem delN_no (l : List (ByteArray × Nat)) (k : ByteArray) : k ∉ (Ab.delN l k).map (·.1) := by
  intro h
  obtain ⟨x, hx, rfl⟩ := List.mem_map.1 h
  have := (List.mem_filter.1 hx).2
  simp at this
theorem lookIn_none {l : List (ByteArray × Nat)} {k : ByteArray} (h : Ab.lookIn l k = none) : k ∉ l.map (·.1) := by
  intro hk
  obtain ⟨x, hx, rfl⟩ := List.mem_map.1 hk
  unfold Ab.lookIn at h
  have := List.find?_eq_none.1 (Option.map_eq_none_iff.1 h) x hx
  simp at this
theorem delN_same {l : List (ByteArray × Nat)} {k : ByteArray} (h : k ∉ l.map (·.1)) : Ab.delN l k = l := by
  unfold Ab.delN
  rw [List.filter_eq_self]
  intro x hx
  simpa using fun he => h (List.mem_map.2 ⟨x, hx, he⟩)
theorem rep_perm {l : List (ByteArray × Nat)} {k : ByteArray} {f : Nat} (hn : (l.map (·.1)).Nodup) (h : k ∈ l.map (·.1)) : (l.map fun x => if x.1 = k then (k, f) else x).Perm ((k, f) :: Ab.delN l k) := by
  induction l with
  | nil => simp at h
  | cons x l ih =>
    rw [List.map_cons, List.nodup_cons] at hn
    rw [List.map_cons]
    by_cases hx : x.1 = k
    · rw [if_pos hx]
      have hk : k ∉ l.map (·.1) := by rw [← hx]; exact hn.1
      have h1 : l.map (fun x => if x.1 = k then (k, f) else x) = l := by
        conv => rhs; rw [← List.map_id l]
        refine List.map_congr_left fun y hy => ?_
        rw [if_neg (fun he => hk (List.mem_map.2 ⟨y, hy, he⟩))]; rfl
      rw [h1]
      have h2 : Ab.delN (x :: l) k = l := by
        have := delN_same hk
        unfold Ab.delN at this ⊢
        rw [List.filter_cons, if_neg (by simp [hx]), this]
      rw [h2]
    · rw [if_neg hx]
      have h2 : Ab.delN (x :: l) k = x :: Ab.delN l k := by unfold Ab.delN; rw [List.filter_cons, if_pos (by simp [hx])]
      rw [h2]
      rw [List.map_cons, List.mem_cons] at h
      exact ((ih hn.2 (h.resolve_left fun he => hx he.symm)).cons x).trans (List.Perm.swap _ _ _)
theorem setN_perm {l : List (ByteArray × Nat)} (hn : (l.map (·.1)).Nodup) (k : ByteArray) (f : Nat) : (Ab.setN l k f).Perm ((k, f) :: Ab.delN l k) := by
  unfold Ab.setN
  cases h : Ab.lookIn l k with
  | none =>
    rw [if_neg (by simp), delN_same (lookIn_none h)]
    exact List.perm_append_singleton _ _
  | some g =>
    rw [if_pos (by simp)]
    exact rep_perm hn (List.mem_map.2 ⟨(k, g), (look_iff hn k g).1 h, rfl⟩)
theorem NR.set {σ : Nat → Nat} {l : List (ByteArray × Nat)} {l' : List Nm} (h : NR σ l l') (k : ByteArray) (f : Nat) : NR σ (Ab.setN l k f) (RM.with_ (RM.without l' k) (k, σ f)) :=
  (h.del k).cons (setN_perm h.2 k f) (delN_no _ _)
theorem NR.congr {σ σ' : Nat → Nat} {l : List (ByteArray × Nat)} {l' : List Nm} (h : NR σ l l') (he : ∀ x ∈ l, σ x.2 = σ' x.2) : NR σ' l l' := by
  refine ⟨?_, h.2⟩
  have : l.map (fun x => ((x.1, σ' x.2) : Nm)) = l.map (fun x => ((x.1, σ x.2) : Nm)) := List.map_congr_left fun x hx => by rw [he x hx]
  rw [this]; exact h.1
/-- The two disks stand alike; σ tells which of the reference's files is that of the program's. -/
structure SimR (A : Ab) (m : RM) (σ : Nat → Nat) : Prop where
  room : m.room = (A.room : Int)
  off : m.down = A.off
  plan : m.nxt = A.plan
  ids : (A.fs.map (·.1)).Nodup
  last : A.names ∈ A.states
  names : NR σ A.names m.l
  sts : All2 (NR σ) A.states m.sts
  known : ∀ st ∈ A.states, ∀ x ∈ st, x.2 ∈ A.fs.map (·.1)
  inj : ∀ a ∈ A.fs.map (·.1), ∀ b ∈ A.fs.map (·.1), σ a = σ b → a = b
  lt : ∀ a ∈ A.fs.map (·.1), σ a < m.now.length
  ls : m.sure.length = m.now.length
  now : ∀ st ∈ A.states, ∀ x ∈ st, A.now x.2 = m.file (σ x.2)
  sure : ∀ a ∈ A.fs.map (·.1), A.sure a = m.sure.getD (σ a) []
  wr : All2 (fun x y => x.1 ∈ A.fs.map (·.1) ∧ y.1 = σ x.1 ∧ y.2 = x.2) A.writes m.wr
def Sim (A : Ab) (m : RM) : Prop := ∃ σ, SimR A m σ
theorem Sim.new (room : Nat) : Sim (Ab.new room) ⟨(room : Int), [], [], [], [[]], [], [], false⟩ :=
  ⟨fun _ => 0, { room := rfl, off := rfl, plan := rfl, ids := List.nodup_nil, last := List.mem_singleton.2 rfl, names := ⟨List.Perm.refl _, List.nodup_nil⟩, sts := All2.one ⟨List.Perm.refl _, List.nodup_nil⟩
                 known := fun st hst x hx => (by rw [List.mem_singleton.1 hst] at hx; cases hx), inj := fun a ha => (by cases ha), lt := fun a ha => (by cases ha), ls := rfl
                 now := fun st hst x hx => (by rw [List.mem_singleton.1 hst] at hx; cases hx), sure := fun a ha => (by cases ha), wr := All2.nil }⟩
theorem SimR.plan' {A : Ab} {m : RM} {σ : Nat → Nat} (h : SimR A m σ) (p : List UInt8) (o : Bool) : SimR { A with plan := p, off := o } { m with nxt := p, down := o } σ :=
  ⟨h.room, rfl, rfl, h.ids, h.last, h.names, h.sts, h.known, h.inj, h.lt, h.ls, h.now, h.sure, h.wr⟩
theorem SimR.meet {A : Ab} {m : RM} {σ : Nat → Nat} (h : SimR A m σ) : (A.meet true).1 = m.may.1 ∧ SimR (A.meet true).2 m.may.2 σ := by
  unfold Ab.meet RM.may
  rw [if_neg (by simp), h.off]
  have hp := h.plan
  have ho := h.off
  by_cases h1 : A.off = true
  · rw [if_pos h1, if_pos h1]; exact ⟨rfl, h⟩
  rw [if_neg h1, if_neg h1, hp]
  cases hpl : A.plan with
  | nil => exact ⟨rfl, h⟩
  | cons x p =>
    simp only
    have hq := fun o => h.plan' p o
    by_cases hx : x = 1
    · rw [if_pos hx, if_pos hx]; exact ⟨rfl, by have := hq A.off; rw [← ho] at this ⊢; exact this⟩
    rw [if_neg hx, if_neg hx]
    by_cases hx2 : x = 2
    · rw [if_pos hx2, if_pos hx2]; exact ⟨rfl, hq true⟩
    rw [if_neg hx2, if_neg hx2]; exact ⟨rfl, by have := hq A.off; rw [← ho] at this ⊢; exact this⟩
theorem SimR.look {A : Ab} {m : RM} {σ : Nat → Nat} (h : SimR A m σ) (name : ByteArray) : m.find name = (A.look name).map σ := h.names.find name
theorem SimR.lookK {A : Ab} {m : RM} {σ : Nat → Nat} (h : SimR A m σ) {name : ByteArray} {f : Nat} (hf : A.look name = some f) : (name, f) ∈ A.names := (look_iff h.names.2 name f).1 hf
theorem SimR.used {A : Ab} {m : RM} {σ : Nat → Nat} (h : SimR A m σ) : A.used = m.used := by
  unfold Ab.used RM.used
  have h1 := h.names.1.map (fun x => (m.file x.2).length)
  rw [List.map_map] at h1
  rw [← h1.sum_nat]
  congr 1
  exact List.map_congr_left fun x hx => by rw [h.now _ h.last x hx]; rfl
theorem SimR.chg {A : Ab} {m : RM} {σ : Nat → Nat} (h : SimR A m σ) {nm : List (ByteArray × Nat)} {l' : List Nm} (hn : NR σ nm l') (hk : ∀ x ∈ nm, x.2 ∈ A.fs.map (·.1)) (hw : ∀ x ∈ nm, A.now x.2 = m.file (σ x.2)) : SimR (A.chg nm) (m.named l') σ where
  room := h.room
  off := h.off
  plan := h.plan
  ids := h.ids
  last := List.mem_append_right _ (List.mem_singleton.2 rfl)
  names := hn
  sts := h.sts.snoc hn
  known st hst := by
    rcases List.mem_append.1 hst with hst | hst
    · exact h.known st hst
    · rw [List.mem_singleton.1 hst]; exact hk
  inj := h.inj
  lt := h.lt
  ls := h.ls
  now st hst := by
    rcases List.mem_append.1 hst with hst | hst
    · exact h.now st hst
    · rw [List.mem_singleton.1 hst]; exact hw
  sure := h.sure
  wr := h.wr
theorem getD_snoc {l : List (List UInt8)} {i : Nat} (h : i < l.length) : (l ++ [[]]).getD i [] = l.getD i [] := by
  rw [List.getD_eq_getElem?_getD, List.getD_eq_getElem?_getD, List.getElem?_append_left h]
theorem getD_last (l : List (List UInt8)) : (l ++ [[]]).getD l.length [] = [] := by
  rw [List.getD_eq_getElem?_getD, List.getElem?_append_right (Nat.le_refl _), Nat.sub_self]; rfl
theorem SimR.grow {A : Ab} {m : RM} {σ : Nat → Nat} (h : SimR A m σ) {f : Nat} (hf : f ∉ A.fs.map (·.1)) :
    SimR { A with fs := (f, [], []) :: A.fs } { m with now := m.now ++ [[]], sure := m.sure ++ [[]] } (fun a => if a = f then m.now.length else σ a) := by
  have hne : ∀ a ∈ A.fs.map (·.1), a ≠ f := fun a ha he => hf (he ▸ ha)
  have hs : ∀ a ∈ A.fs.map (·.1), (fun a => if a = f then m.now.length else σ a) a = σ a := fun a ha => if_neg (hne a ha)
  have hfile : ∀ a ∈ A.fs.map (·.1), ({ A with fs := (f, [], []) :: A.fs } : Ab).file a = A.file a := fun a ha => by rw [file_cons, if_neg (fun he => hne a ha he.symm)]
  refine { room := h.room, off := h.off, plan := h.plan, ids := ?_, last := h.last, names := ?_, sts := ?_, known := ?_, inj := ?_, lt := ?_, ls := ?_, now := ?_, sure := ?_, wr := ?_ }
  · rw [List.map_cons, List.nodup_cons]; exact ⟨hf, h.ids⟩
  · exact h.names.congr fun x hx => (hs x.2 (h.known _ h.last x hx)).symm
  · refine ⟨h.sts.1, fun i x y hx hy => ?_⟩
    exact (h.sts.2 i x y hx hy).congr fun z hz => (hs z.2 (h.known _ (List.mem_of_getElem? hx) z hz)).symm
  · exact fun st hst x hx => List.mem_cons_of_mem _ (h.known st hst x hx)
  · intro a ha b hb hab
    rw [List.map_cons, List.mem_cons] at ha hb
    rcases ha with rfl | ha <;> rcases hb with rfl | hb
    · rfl
    · simp only [if_true] at hab
      have := hs b hb
      simp only at this
      rw [this] at hab
      have := h.lt b hb
      omega
    · simp only [if_true] at hab
      have := hs a ha
      simp only at this
      rw [this] at hab
      have := h.lt a ha
      omega
    · have h1 := hs a ha
      have h2 := hs b hb
      simp only at h1 h2
      rw [h1, h2] at hab
      exact h.inj a ha b hb hab
  · intro a ha
    rw [List.map_cons, List.mem_cons] at ha
    simp only [List.length_append, List.length_singleton]
    rcases ha with rfl | ha
    · simp
    · have h1 := hs a ha
      simp only at h1
      rw [h1]
      have := h.lt a ha
      omega
  · simp [h.ls]
  · intro st hst x hx
    have hk := h.known st hst x hx
    have h1 := hs x.2 hk
    simp only at h1
    rw [h1]
    have h2 := h.now st hst x hx
    unfold Ab.now RM.file at h2 ⊢
    rw [hfile _ hk, h2]
    exact (getD_snoc (h.lt _ hk)).symm
  · intro a ha
    rw [List.map_cons, List.mem_cons] at ha
    rcases ha with rfl | ha
    · unfold Ab.sure
      rw [file_cons, if_pos rfl]
      simp only [if_true]
      rw [← h.ls]
      exact (getD_last _).symm
    · have h1 := hs a ha
      simp only at h1
      rw [h1]
      have h2 := h.sure a ha
      unfold Ab.sure at h2 ⊢
      rw [hfile _ ha, h2]
      exact (getD_snoc (by rw [h.ls]; exact h.lt _ ha)).symm
  · exact h.wr.mono fun x y hh => ⟨List.mem_cons_of_mem _ hh.1, hh.2.1.trans (hs _ hh.1).symm, hh.2.2⟩
end Go.Proofs.Ytpdmbmnhgcnelaa

/- the reference's disk, part n: names. -/
set_option linter.unusedVariables false
set_option linter.unusedSimpArgs false
namespace Go.Proofs.Ytpdmbmnhgcnelaa
open Go Go.SL
def fI : Option Nat → Int
  | none => -1
  | some f => f
theorem eqS_eq {a b : ByteArray} : eqS a b = true ↔ a = b := by
  unfold eqS
  rw [beq_iff_eq]
  constructor
  · intro h; cases a; cases b; simp only [ByteArray.mk.injEq]; exact Array.ext' h
  · rintro rfl; rfl
theorem eqS_of_not {a b : ByteArray} (h : (!(eqS a b)) = false) : a = b := eqS_eq.1 (by simpa using h)
theorem find_first {l : List Nm} {i : Nat} {x : Nm} {name : ByteArray} (hx : l[i]? = some x) (he : x.1 = name) (hb : ∀ y ∈ l.take i, ¬ y.1 = name) : (l.find? fun x => decide (x.1 = name)).map (·.2) = some x.2 := by
  have hi := (List.getElem?_eq_some_iff.1 hx).1
  rw [← List.take_append_drop i l, List.find?_append, List.find?_eq_none.2 (fun y hy => by simpa using hb y hy), Option.none_or, List.drop_eq_getElem_cons hi]
  have : l[i] = x := by rw [List.getElem?_eq_getElem hi] at hx; exact Option.some.inj hx
  rw [this, List.find?_cons_of_pos (by simpa using he)]
  rfl
theorem find_nobody {l : List Nm} {name : ByteArray} (hb : ∀ y ∈ l, ¬ y.1 = name) : (l.find? fun x => decide (x.1 = name)).map (·.2) = none := by
  rw [List.find?_eq_none.2 (fun y hy => by simpa using hb y hy)]; rfl
theorem without_keep {l : List Nm} {i : Nat} {x : Nm} {name : ByteArray} (hx : l[i]? = some x) (h : ¬ x.1 = name) : RM.without (l.take (i + 1)) name = RM.without (l.take i) name ++ [x] := by
  unfold RM.without
  rw [List.take_add_one, hx, Option.toList_some, List.filter_append]
  simp [h]
theorem without_drop {l : List Nm} {i : Nat} {x : Nm} {name : ByteArray} (hx : l[i]? = some x) (h : x.1 = name) : RM.without (l.take (i + 1)) name = RM.without (l.take i) name := by
  unfold RM.without
  rw [List.take_add_one, hx, Option.toList_some, List.filter_append]
  simp [h]
attribute [local irreducible] J K Ctr Ends pts slc mapR mapI sbRow stock arrS

set_option maxRecDepth 20000 in
/-- One of the names' files, or none. -/
theorem mFind_any (br k : Nat) (D : RDk) (m : RM) (hR : RR D m) (hM : MOk m k) (name : ByteArray) : Ctr Try.prog 29 [ptr br, .string name] [rd br D] (fun v H => v = .int .i64 (fI (m.find name)) ∧ H = [rd br D]) := by
  obtain ⟨room, now, sure, lv, sts, wrs, nxt, down, nowL, sureL, stsL, wl, arrs, nrows⟩ := D
  have hl := hR.l
  have hlk := hM.ll
  have hkk := hM.kk
  have hfd : m.find name = (m.l.find? fun x => decide (x.1 = name)).map (·.2) := rfl
  generalize m.l = l at hl hlk hfd
  simp only at hl
  rw [hfd]
  obtain ⟨a, cap, rfl, hcap⟩ := hl.shape
  have hv := hl.view 77
  refine Ctr.enter Try.func29 (by kernel_rfl) rfl Try.ntmps29 rfl rfl ?_
  intro G F R hE
  refine K_ent (rd_o _ _ _ _ _ _ _ _ _ _ _ _ _ _ _ _) ?_
  (refine go ?_)
  refine K_loop (fun i : Nat => i ≤ l.length ∧ ∀ y ∈ l.take i, ¬ y.1 = name) (fun i => l.length - i) (fun i => [(0, ptr br), (1, .string name), (5, .int .i64 i)])
    (fun _ => pts br (cl [.int .i64 room, now, sure, .slice a l.length cap, sts, wrs, nxt, .bool down] 61) :: arrS 5 arrs :: arrS 77 nrows ::
        slc 22 1 now nowL.length nowL :: slc 22 1 sure sureL.length sureL :: slc 58 1 sts stsL.length stsL :: slc 84 3 wrs wl.length (wl.flatMap wcell) :: F) 0 ⟨Nat.zero_le _, by simp⟩ rfl (by repeat (first | exact keep_nil | refine keep_cons rfl ?_)) (Ent.refl _) ?_
  rintro i ⟨hi, hb⟩ ih
  (refine go ?_)
  refine K_condP rfl rfl ?_ ?_
  · intro hlt
    have hi' : i < l.length := by omega
    obtain ⟨x, hx⟩ : ∃ x, l[i]? = some x := ⟨l[i], by simp⟩
    have hg : ∀ q, q < 2 → (l.flatMap ncell)[i * 2 + q]? = (ncell x)[q]? := fun q hq => chunk_get ncell_len hx q hq
    obtain ⟨bb, oo, cc, hsl⟩ := hv.some (by rw [← List.length_pos_iff, chunk_len ncell_len]; omega)
    simp only [Value.slice.injEq, true_and] at hsl
    obtain ⟨rfl, rfl⟩ := hsl
    (refine go ?_)
    refine J_at (U := tab) i 2 rfl rfl rfl rfl rfl rfl rfl rfl hi' ?_
    (refine go ?_)
    refine J_loadAt (U := tab) 2 (i * 2 + 0) rfl rfl rfl hv (Nat.add_assoc _ _ _) (hg 0 (by omega)) rfl rfl ?_
    (refine go ?_)
    refine K_condA rfl rfl ?_ ?_
    · intro he
      (refine go ?_)
      refine J_at (U := tab) i 2 rfl rfl rfl rfl rfl rfl rfl rfl hi' ?_
      (refine go ?_)
      refine J_loadAt (U := tab) 2 (i * 2 + 1) rfl rfl rfl hv (Nat.add_assoc _ _ _) (hg 1 (by omega)) rfl rfl ?_
      (refine go ?_)
      have he2 : x.1 = name := eqS_eq.1 he
      have hff := find_first hx he2 hb
      rw [hff] at hE
      refine K_return hE Try.func29 rfl _ rfl ⟨rfl, rfl⟩ ((Ent.pick [0, 1, 2, 3, 4, 5, 6] rfl).trans (rd_c _ _ _ _ _ _ _ _ _ _ _ _ _ _ _ _))
    · intro he
      (refine go ?_)
      refine K_again ih (i + 1) rfl ⟨by omega, allTake hb hx (fun h => by rw [eqS_eq.2 h] at he; cases he)⟩ (by omega) (by repeat (first | exact keep_nil | refine keep_cons rfl ?_)) (Ent.refl _)
  · intro hge
    (refine go ?_)
    rw [find_nobody (fun y hy => hb y (by rw [List.take_of_length_le (by omega)]; exact hy))] at hE
    refine K_return hE Try.func29 rfl _ rfl ⟨rfl, rfl⟩ ((Ent.pick [0, 1, 2, 3, 4, 5, 6] rfl).trans (rd_c _ _ _ _ _ _ _ _ _ _ _ _ _ _ _ _))

/-- without: some of the names. -/
theorem mWithout_any (A : HP) (v : Value) (l : List Nm) (name : ByteArray) (hv : Vw A v l.length (l.flatMap ncell)) (hlk : l.length ≤ 1000000) :
    Ctr Try.prog 95 [v, .string name] [A] (fun r H => H = [slc 77 2 r (RM.without l name).length ((RM.without l name).flatMap ncell), A]) := by
  obtain ⟨a, cap, rfl⟩ := hv.shape
  refine Ctr.enter Try.func95 (by kernel_rfl) rfl Try.ntmps95 rfl rfl ?_
  intro G F R hE
  (refine go ?_)
  refine K_ent (slc_lift 77 2 none _) ?_
  refine K_loop (fun s : Nat × List Nm × Option Addr × Nat => s.1 ≤ l.length ∧ s.2.1 = RM.without (l.take s.1) name) (fun s => l.length - s.1)
    (fun s => [(0, .slice a l.length cap), (1, .string name), (5, .slice s.2.2.1 s.2.1.length s.2.2.2), (6, .int .i64 s.1)])
    (fun s => slc 77 2 (.slice s.2.2.1 s.2.1.length s.2.2.2) s.2.1.length (s.2.1.flatMap ncell) :: A :: F) (0, [], none, 0) ⟨Nat.zero_le _, rfl⟩ rfl (by repeat (first | exact keep_nil | refine keep_cons rfl ?_)) (Ent.refl _) ?_
  rintro ⟨i, l', a', c'⟩ ⟨hi, hsub⟩ ih
  simp only at hi hsub
  have hlen : l'.length ≤ i := by rw [hsub]; exact Nat.le_trans (List.length_filter_le _ _) (by rw [List.length_take]; omega)
  (refine go ?_)
  refine K_condP rfl rfl ?_ ?_
  · intro hlt
    simp only at hlt
    have hi' : i < l.length := by omega
    obtain ⟨x, hx⟩ : ∃ x, l[i]? = some x := ⟨l[i], by simp⟩
    have hg : ∀ q, q < 2 → (l.flatMap ncell)[i * 2 + q]? = (ncell x)[q]? := fun q hq => chunk_get ncell_len hx q hq
    obtain ⟨bb, oo, cc, hsl⟩ := hv.some (by rw [← List.length_pos_iff, chunk_len ncell_len]; omega)
    simp only [Value.slice.injEq, true_and] at hsl
    obtain ⟨rfl, rfl⟩ := hsl
    (refine go ?_)
    refine J_at (U := tab) i 2 rfl rfl rfl rfl rfl rfl rfl rfl hi' ?_
    (refine go ?_)
    refine J_loadAt (U := tab) 1 (i * 2 + 0) rfl rfl rfl hv (Nat.add_assoc _ _ _) (hg 0 (by omega)) rfl rfl ?_
    (refine go ?_)
    refine K_condA rfl rfl ?_ ?_
    · intro he
      (refine go ?_)
      refine J_at (U := tab) i 2 rfl rfl rfl rfl rfl rfl rfl rfl hi' ?_
      refine J_loadElem (U := tab) (es := ncell x) 1 (i * 2) rfl rfl rfl hv rfl (fun q v hq => ?_) rfl rfl rfl ?_
      · have hj2 : q < 2 := by
          rcases Nat.lt_or_ge q 2 with h | h
          · exact h
          · rw [List.getElem?_eq_none (by rw [ncell_len]; exact h)] at hq; cases hq
        rw [hg q hj2]; exact hq
      refine J_buildSlice1 (U := tab) (cs := ncell x) rfl rfl rfl rfl rfl rfl rfl rfl rfl (fun _ _ _ => trivial) ?_; intro b1; refine J_append (U := tab) (mm := 1) (news := ncell x) 1 0 rfl rfl rfl rfl rfl rfl rfl rfl rfl rfl rfl rfl (Vw.pts rfl) rfl (by simp [ncell, Value.oneCell']) (by simp only; omega) (by show _ * 24 ≤ _; simp only; omega) (fun _ => rfl) (fun _ _ _ => trivial) ?_; intro v'; rw [show List.flatMap ncell l' ++ ncell x = (l' ++ [x]).flatMap ncell from by simp, show List.length l' + 1 = (l' ++ [x]).length from by simp]; refine J_shape 1 rfl ?_; rintro a2 c2 rfl
      (refine go ?_)
      refine K_again ih (i + 1, l' ++ [x], a2, c2) rfl ⟨by simp only; omega, by simp only; rw [hsub, without_keep hx (fun h => by rw [h] at he; simp [eqS] at he)]⟩ (by simp only; omega) (by repeat (first | exact keep_nil | refine keep_cons rfl ?_)) (Ent.drop _ _)
    · intro he
      (refine go ?_)
      refine K_again ih (i + 1, l', a', c') rfl ⟨by simp only; omega, by simp only; rw [hsub, without_drop hx (eqS_of_not he)]⟩ (by simp only; omega) (by repeat (first | exact keep_nil | refine keep_cons rfl ?_)) (Ent.refl _)
  · intro hge
    (refine go ?_)
    refine K_return hE Try.func95 rfl _ rfl (by simp only; rw [hsub, List.take_of_length_le (by omega)]; rfl) (Ent.fin [0, 1] 0 rfl rfl)
end Go.Proofs.Ytpdmbmnhgcnelaa

/- the reference's disk, part o: with, named, Used. -/
set_option linter.unusedVariables false
set_option linter.unusedSimpArgs false
namespace Go.Proofs.Ytpdmbmnhgcnelaa
open Go Go.SL
theorem with_len (l : List Nm) (x : Nm) : (RM.with_ l x).length = l.length + 1 := by
  induction l with
  | nil => rfl
  | cons y l ih => simp only [RM.with_]; split <;> simp [ih]
structure WI (l : List Nm) (x : Nm) (i : Nat) (l' : List Nm) (put : Bool) : Prop where
  no : put = false → l' = l.take i ∧ RM.with_ l x = l.take i ++ RM.with_ (l.drop i) x
  yes : put = true → l' ++ l.drop i = RM.with_ l x
theorem WI.len {l : List Nm} {x : Nm} {i : Nat} {l' : List Nm} {put : Bool} (h : WI l x i l' put) (hi : i ≤ l.length) : l'.length ≤ i + put.toNat := by
  cases put with
  | false => rw [(h.no rfl).1, List.length_take]; simp; omega
  | true =>
    have := congrArg List.length (h.yes rfl)
    rw [List.length_append, List.length_drop, with_len] at this
    simp only [Bool.toNat_true]
    omega
theorem drop_get {l : List Nm} {i : Nat} {y : Nm} (hy : l[i]? = some y) : l.drop i = y :: l.drop (i + 1) := by
  have hi := (List.getElem?_eq_some_iff.1 hy).1
  rw [List.drop_eq_getElem_cons hi]
  congr 1
  rw [List.getElem?_eq_getElem hi] at hy
  exact Option.some.inj hy
theorem WI.put1 {l : List Nm} {x y : Nm} {i : Nat} {l' : List Nm} (h : WI l x i l' true) (hy : l[i]? = some y) : WI l x (i + 1) (l' ++ [y]) true :=
  ⟨(fun h => by cases h), fun _ => by rw [← h.yes rfl, drop_get hy]; simp⟩
theorem WI.ins {l : List Nm} {x y : Nm} {i : Nat} {l' : List Nm} (h : WI l x i l' false) (hy : l[i]? = some y) (hg : (!(ltS y.1 x.1 || eqS y.1 x.1)) = true) : WI l x (i + 1) (l' ++ [x] ++ [y]) true :=
  ⟨(fun h => by cases h), fun _ => by
    obtain ⟨h1, h2⟩ := h.no rfl
    rw [h2, drop_get hy, h1]
    simp only [RM.with_]
    rw [if_pos hg]
    simp⟩
theorem WI.skip {l : List Nm} {x y : Nm} {i : Nat} {l' : List Nm} (h : WI l x i l' false) (hy : l[i]? = some y) (hg : (!(ltS y.1 x.1 || eqS y.1 x.1)) = false) : WI l x (i + 1) (l' ++ [y]) false :=
  ⟨fun _ => by
    obtain ⟨h1, h2⟩ := h.no rfl
    refine ⟨by rw [h1, List.take_add_one, hy]; rfl, ?_⟩
    rw [h2, drop_get hy, List.take_add_one, hy]
    simp only [RM.with_]
    rw [if_neg (by rw [hg]; simp)]
    simp, fun h => by cases h⟩
theorem WI.end1 {l : List Nm} {x : Nm} {i : Nat} {l' : List Nm} (h : WI l x i l' true) (hi : l.length ≤ i) : l' = RM.with_ l x := by
  have := h.yes rfl
  rwa [List.drop_of_length_le hi, List.append_nil] at this
theorem WI.end0 {l : List Nm} {x : Nm} {i : Nat} {l' : List Nm} (h : WI l x i l' false) (hi : l.length ≤ i) : l' ++ [x] = RM.with_ l x := by
  obtain ⟨h1, h2⟩ := h.no rfl
  rw [h2, h1, List.take_of_length_le hi, List.drop_of_length_le hi]; rfl
theorem used_bound {m : RM} (hn : ∀ b ∈ m.now, b.length ≤ 1048576) (l : List Nm) (k : Nat) (hk : l.length ≤ k) : (l.map fun x => (m.file x.2).length).sum ≤ k * 1048576 := by
  have h1 : (l.map fun x => (m.file x.2).length).sum ≤ l.length * 1048576 := by
    clear hk
    induction l with
    | nil => simp
    | cons x l ih =>
      rw [List.map_cons, List.sum_cons, List.length_cons]
      have : (m.file x.2).length ≤ 1048576 := by
        unfold RM.file
        rw [List.getD_eq_getElem?_getD]
        cases h : m.now[x.2]? with
        | none => simp
        | some b => exact hn b (List.mem_of_getElem? h)
      omega
  exact Nat.le_trans h1 (Nat.mul_le_mul_right _ hk)
attribute [local irreducible] J K Ctr Ends pts slc mapR mapI sbRow stock arrS

set_option maxRecDepth 20000 in
/-- with: the names and one more. -/
theorem mWith_any (A : HP) (v : Value) (l : List Nm) (x : Nm) (hv : Vw A v l.length (l.flatMap ncell)) (hlk : l.length ≤ 1000000) :
    Ctr Try.prog 31 [v, .agg (ncell x).toArray] [A] (fun r H => H = [slc 77 2 r (RM.with_ l x).length ((RM.with_ l x).flatMap ncell), A]) := by
  obtain ⟨a, cap, rfl⟩ := hv.shape
  refine Ctr.enter Try.func31 (by kernel_rfl) rfl Try.ntmps31 rfl rfl ?_
  intro G F R hE
  (refine go ?_)
  refine J_box rfl rfl (fun _ _ _ => trivial) ?_
  intro b0
  rw [cellsL_toArray']
  (refine go ?_)
  refine K_ent (slc_lift 77 2 none _) ?_
  refine K_loop (fun s : Nat × List Nm × Bool × Option Addr × Nat => s.1 ≤ l.length ∧ WI l x s.1 s.2.1 s.2.2.1) (fun s => l.length - s.1)
    (fun s => [(0, .slice a l.length cap), (3, .pointer (some ⟨b0, 0, none⟩)), (5, .slice s.2.2.2.1 s.2.1.length s.2.2.2.2), (6, .bool s.2.2.1), (7, .int .i64 s.1)])
    (fun s => slc 77 2 (.slice s.2.2.2.1 s.2.1.length s.2.2.2.2) s.2.1.length (s.2.1.flatMap ncell) :: pts b0 (cl (ncell x) 77) :: A :: F) (0, [], false, none, 0) ⟨Nat.zero_le _, ⟨fun _ => ⟨rfl, rfl⟩, fun h => by cases h⟩⟩ rfl (by repeat (first | exact keep_nil | refine keep_cons rfl ?_)) (Ent.refl _) ?_
  rintro ⟨i, l', put, a', c'⟩ ⟨hi, hsub⟩ ih
  simp only at hi hsub
  have hlen := hsub.len hi
  have hpb : put.toNat ≤ 1 := by cases put <;> simp
  (refine go ?_)
  refine K_condP rfl rfl ?_ ?_
  · intro hlt
    simp only at hlt
    have hi' : i < l.length := by omega
    obtain ⟨y, hy⟩ : ∃ y, l[i]? = some y := ⟨l[i], by simp⟩
    have hym := List.mem_of_getElem? hy
    have hg : ∀ q, q < 2 → (l.flatMap ncell)[i * 2 + q]? = (ncell y)[q]? := fun q hq => chunk_get ncell_len hy q hq
    obtain ⟨bb, oo, cc, hsl⟩ := hv.some (by rw [← List.length_pos_iff, chunk_len ncell_len]; omega)
    simp only [Value.slice.injEq, true_and] at hsl
    obtain ⟨rfl, rfl⟩ := hsl
    refine K_drawA (fun w => Sat G w ([pts b0 (cl (ncell x) 77), A])) (.st 0 (.st 1 (.st 2 (.st 3 (.st 4 (.st 5 (.st 6 (.st 7 (.st 8 (.st 9 (.st 10 (.st 11 .nil)))))))))))) rfl (by kernel_rfl) (by kernel_rfl) (by kernel_rfl) (fun w hw => hw.ent (Ent.pickOnly ([1, 2]) rfl)) ?_
    cases put with
    | true =>
      (refine go ?_)
      refine J_at (U := tab) i 2 rfl rfl rfl rfl rfl rfl rfl rfl hi' ?_
      (refine J_loadElem (U := tab) (es := ncell y) 2 (i * 2) rfl rfl rfl hv rfl (fun q v hq => (hg q (by rcases Nat.lt_or_ge q 2 with h | h; exact h; rw [List.getElem?_eq_none (by rw [ncell_len]; exact h)] at hq; cases hq)).trans hq) rfl rfl rfl ?_)
      refine J_buildSlice1 (U := tab) (cs := ncell y) rfl rfl rfl rfl rfl rfl rfl rfl rfl (fun _ _ _ => trivial) ?_; intro b1; refine J_append (U := tab) (mm := 1) (news := ncell y) 1 0 rfl rfl rfl rfl rfl rfl rfl rfl rfl rfl rfl rfl (Vw.pts rfl) rfl (by simp [ncell, Value.oneCell']) (by simp only; omega) (by show _ * 24 ≤ _; simp only; omega) (fun _ => rfl) (fun _ _ _ => trivial) ?_; intro v'; rw [show List.flatMap ncell l' ++ ncell y = (l' ++ [y]).flatMap ncell from by simp, show List.length l' + 1 = (l' ++ [y]).length from by simp]; refine J_shape 1 rfl ?_; rintro a2 c2 rfl
      (refine go ?_)
      refine K_again ih (i + 1, l' ++ [y], true, a2, c2) rfl ⟨by simp only; omega, hsub.put1 hy⟩ (by simp only; omega) (by repeat (first | exact keep_nil | refine keep_cons rfl ?_)) (Ent.drop _ _)
    | false =>
      (refine go ?_)
      refine J_at (U := tab) i 2 rfl rfl rfl rfl rfl rfl rfl rfl hi' ?_
      (refine go ?_)
      refine J_loadAtS (U := tab) 1 (i * 2 + 0) rfl rfl rfl hv (Nat.add_assoc _ _ _) (hg 0 (by omega)) rfl rfl ?_
      (refine go ?_)
      refine K_condA rfl rfl ?_ ?_
      · intro hgt
        (refine go ?_)
        refine J_loadElem (U := tab) (es := ncell x) (o := 0) (nn := 1) (cap := 1) 1 0 rfl rfl rfl (Vw.pts rfl) rfl (fun j v h => by simpa using h) rfl rfl rfl ?_
        refine J_buildSlice1 (U := tab) (cs := ncell x) rfl rfl rfl rfl rfl rfl rfl rfl rfl (fun _ _ _ => trivial) ?_; intro b1; refine J_append (U := tab) (mm := 1) (news := ncell x) 1 0 rfl rfl rfl rfl rfl rfl rfl rfl rfl rfl rfl rfl (Vw.pts rfl) rfl (by simp [ncell, Value.oneCell']) (by simp only; omega) (by show _ * 24 ≤ _; simp only; omega) (fun _ => rfl) (fun _ _ _ => trivial) ?_; intro v'; rw [show List.flatMap ncell l' ++ ncell x = (l' ++ [x]).flatMap ncell from by simp, show List.length l' + 1 = (l' ++ [x]).length from by simp]; refine J_shape 1 rfl ?_; rintro a2 c2 rfl
        refine J_ent (Ent.drop _ _) ?_
        (refine go ?_)
        refine J_at (U := tab) i 2 rfl rfl rfl rfl rfl rfl rfl rfl hi' ?_
        (refine J_loadElem (U := tab) (es := ncell y) 2 (i * 2) rfl rfl rfl hv rfl (fun q v hq => (hg q (by rcases Nat.lt_or_ge q 2 with h | h; exact h; rw [List.getElem?_eq_none (by rw [ncell_len]; exact h)] at hq; cases hq)).trans hq) rfl rfl rfl ?_)
        have hlen2 : (l' ++ [x]).length = l'.length + 1 := by simp
        refine J_buildSlice1 (U := tab) (cs := ncell y) rfl rfl rfl rfl rfl rfl rfl rfl rfl (fun _ _ _ => trivial) ?_
        intro b2
        simp only [Bool.toNat_false] at hlen
        refine J_append (U := tab) (mm := 1) (news := ncell y) 1 0 rfl rfl rfl rfl rfl rfl rfl rfl rfl rfl rfl rfl (Vw.pts rfl) rfl (by simp [ncell, Value.oneCell']) (by rw [hlen2]; omega) (by show _ * 24 ≤ _; rw [hlen2]; omega) (fun _ => rfl) (fun _ _ _ => trivial) ?_
        intro v''
        rw [show List.flatMap ncell (l' ++ [x]) ++ ncell y = (l' ++ [x] ++ [y]).flatMap ncell from by simp, show List.length (l' ++ [x]) + 1 = (l' ++ [x] ++ [y]).length from by simp]
        refine J_shape 1 rfl ?_
        rintro a3 c3 rfl
        (refine go ?_)
        refine K_again ih (i + 1, l' ++ [x] ++ [y], true, a3, c3) rfl ⟨by simp only; omega, hsub.ins hy hgt⟩ (by simp only; omega) (by repeat (first | exact keep_nil | refine keep_cons rfl ?_)) (Ent.drop _ _)
      · intro hle
        (refine go ?_)
        refine J_at (U := tab) i 2 rfl rfl rfl rfl rfl rfl rfl rfl hi' ?_
        (refine J_loadElem (U := tab) (es := ncell y) 2 (i * 2) rfl rfl rfl hv rfl (fun q v hq => (hg q (by rcases Nat.lt_or_ge q 2 with h | h; exact h; rw [List.getElem?_eq_none (by rw [ncell_len]; exact h)] at hq; cases hq)).trans hq) rfl rfl rfl ?_)
        refine J_buildSlice1 (U := tab) (cs := ncell y) rfl rfl rfl rfl rfl rfl rfl rfl rfl (fun _ _ _ => trivial) ?_; intro b1; refine J_append (U := tab) (mm := 1) (news := ncell y) 1 0 rfl rfl rfl rfl rfl rfl rfl rfl rfl rfl rfl rfl (Vw.pts rfl) rfl (by simp [ncell, Value.oneCell']) (by simp only; omega) (by show _ * 24 ≤ _; simp only; omega) (fun _ => rfl) (fun _ _ _ => trivial) ?_; intro v'; rw [show List.flatMap ncell l' ++ ncell y = (l' ++ [y]).flatMap ncell from by simp, show List.length l' + 1 = (l' ++ [y]).length from by simp]; refine J_shape 1 rfl ?_; rintro a2 c2 rfl
        (refine go ?_)
        refine K_again ih (i + 1, l' ++ [y], false, a2, c2) rfl ⟨by simp only; omega, hsub.skip hy hle⟩ (by simp only; omega) (by repeat (first | exact keep_nil | refine keep_cons rfl ?_)) (Ent.drop _ _)
  · intro hge
    simp only at hge
    cases put with
    | true =>
      (refine go ?_)
      have hend := hsub.end1 (by omega)
      subst hend
      refine K_return hE Try.func31 rfl _ rfl rfl (Ent.fin [0, 2] 1 rfl rfl)
    | false =>
      simp only [Bool.toNat_false] at hlen
      (refine go ?_)
      refine J_loadElem (U := tab) (es := ncell x) (o := 0) (nn := 1) (cap := 1) 1 0 rfl rfl rfl (Vw.pts rfl) rfl (fun j v h => by simpa using h) rfl rfl rfl ?_
      refine J_buildSlice1 (U := tab) (cs := ncell x) rfl rfl rfl rfl rfl rfl rfl rfl rfl (fun _ _ _ => trivial) ?_; intro b1; refine J_append (U := tab) (mm := 1) (news := ncell x) 1 0 rfl rfl rfl rfl rfl rfl rfl rfl rfl rfl rfl rfl (Vw.pts rfl) rfl (by simp [ncell, Value.oneCell']) (by simp only; omega) (by show _ * 24 ≤ _; simp only; omega) (fun _ => rfl) (fun _ _ _ => trivial) ?_; intro v'; rw [show List.flatMap ncell l' ++ ncell x = (l' ++ [x]).flatMap ncell from by simp, show List.length l' + 1 = (l' ++ [x]).length from by simp]; refine J_shape 1 rfl ?_; rintro a2 c2 rfl
      (refine go ?_)
      rw [hsub.end0 (by omega)]
      refine K_return hE Try.func31 rfl _ rfl rfl (Ent.fin [1, 3] 2 rfl rfl)

/-- named: the names are these from now on. -/
theorem mNamed_any (br k : Nat) (D : RDk) (m : RM) (hR : RR D m) (hst : m.sts.length ≤ 1000000) (v : Value) (l : List Nm) (hl : RIn D.nrows 2 v l.length (l.flatMap ncell)) :
    Ctr Try.prog 30 [ptr br, v] [rd br D] (fun _ H => ∃ D', RR D' (m.named l) ∧ H = [rd br D']) := by
  obtain ⟨room, now, sure, lv, sts, wrs, nxt, down, nowL, sureL, stsL, wl, arrs, nrows⟩ := D
  have hss := hR.sts
  have hsk : stsL.length = m.sts.length := hR.sts.1
  simp only at hl hss ⊢
  obtain ⟨a, cap, rfl, hcap⟩ := hl.shape
  refine Ctr.enter Try.func30 (by kernel_rfl) rfl Try.ntmps30 rfl rfl ?_
  intro G F R hE
  refine K_ent (rd_o _ _ _ _ _ _ _ _ _ _ _ _ _ _ _ _) ?_
  refine K_shape 5 rfl ?_
  rintro sa sc rfl
  (refine go ?_)
  refine J_buildSlice1 (U := tab) rfl rfl rfl rfl rfl rfl rfl rfl rfl (fun _ _ _ => trivial) ?_
  intro b0
  (refine go ?_)
  refine J_ent (slc_row 58 1 b0 0 0 [] [] _ rfl (Nat.le_refl _) (by simp)) ?_
  refine J_slcVw 6 rfl ?_
  intro hvs
  have hone : ∀ u ∈ stsL, u.oneCell' = true := fun u hu => by
    obtain ⟨i, hi⟩ := List.getElem?_of_mem hu
    obtain ⟨y, _, h⟩ := hss.left hi
    obtain ⟨_, _, rfl, _⟩ := h.shape; rfl
  refine J_append (U := tab) (mm := stsL.length) (news := stsL) 0 6 rfl rfl rfl rfl rfl rfl rfl rfl rfl rfl rfl rfl hvs (by show _ = _ * 1; omega) hone (by omega) (by show _ * 24 ≤ _; omega) (fun _ => rfl) (fun _ _ _ => trivial) ?_
  intro v1
  have e1 : (0 : Nat) + stsL.length = stsL.length := by omega
  rw [e1, List.nil_append]
  refine J_shape 0 rfl ?_
  rintro a1 c1 rfl
  (refine go ?_)
  refine J_buildSlice1 (U := tab) rfl rfl rfl rfl rfl rfl rfl rfl rfl (fun _ _ _ => trivial) ?_
  intro b1
  refine J_append (U := tab) (mm := 1) (news := [.slice a l.length cap]) 1 0 rfl rfl rfl rfl rfl rfl rfl rfl rfl rfl rfl rfl (Vw.pts rfl) rfl (by simp [Value.oneCell']) (by omega) (by show _ * 24 ≤ _; omega) (fun _ => rfl) (fun _ _ _ => trivial) ?_
  intro v2
  have e2 : stsL.length + 1 = (stsL ++ [Value.slice a l.length cap]).length := by simp
  rw [e2]
  refine J_shape 1 rfl ?_
  rintro a2 c2 rfl
  (refine go ?_)
  (refine K_ent (Ent.pick ([2, 3, 4, 5, 6, 1, 8]) rfl) ?_; refine K_ent (rd_c _ _ _ _ _ _ _ _ _ _ _ _ _ _ _ _) ?_)
  have hD2 : RR ⟨room, now, sure, .slice a l.length cap, .slice a2 (stsL ++ [Value.slice a l.length cap]).length c2, wrs, nxt, down, nowL, sureL, stsL ++ [Value.slice a l.length cap], wl, arrs, nrows⟩ (m.named l) :=
    ⟨hR.room, hR.down, hR.nxt, hR.now, hR.sure, hl, hss.snoc hl, hR.wr⟩
  refine K_fallEnd hE Try.func30 rfl _ rfl ⟨_, hD2, rfl⟩ (Ent.fin [0] 2 rfl rfl)

/-- Used: some number. -/
theorem mUsed_any (br k : Nat) (D : RDk) (m : RM) (hR : RR D m) (hM : MOk m k) : Ctr Try.prog 37 [ptr br] [rd br D] (fun v H => v = .int .i64 (m.used : Int) ∧ H = [rd br D]) := by
  obtain ⟨room, now, sure, lv, sts, wrs, nxt, down, nowL, sureL, stsL, wl, arrs, nrows⟩ := D
  have hl := hR.l
  have hln := hM.l
  have hlk := hM.ll
  have hkk := hM.kk
  have hnow := hR.now
  have hnn := hM.now
  have hnl : nowL.length = m.now.length := hR.now.1
  have hus : m.used = (m.l.map fun x => (m.file x.2).length).sum := rfl
  generalize m.l = l at hl hln hlk hus
  simp only at hl hnow
  obtain ⟨a, cap, rfl, hcap⟩ := hl.shape
  have hv := hl.view 77
  refine Ctr.enter Try.func37 (by kernel_rfl) rfl Try.ntmps37 rfl rfl ?_
  intro G F R hE
  (refine K_ent (rd_o _ _ _ _ _ _ _ _ _ _ _ _ _ _ _ _) ?_)
  refine K_shape 3 rfl ?_
  rintro na nc rfl
  (refine go ?_)
  refine K_loop (fun s : Nat × Nat => s.1 ≤ l.length ∧ s.2 = ((l.take s.1).map fun x => (m.file x.2).length).sum) (fun s => l.length - s.1) (fun s => [(0, ptr br), (3, .int .i64 s.2), (4, .int .i64 s.1)])
    (fun _ => pts br (cl [.int .i64 room, .slice na nowL.length nc, sure, .slice a l.length cap, sts, wrs, nxt, .bool down] 61) :: arrS 5 arrs :: arrS 77 nrows ::
        slc 22 1 (.slice na nowL.length nc) nowL.length nowL :: slc 22 1 sure sureL.length sureL :: slc 58 1 sts stsL.length stsL :: slc 84 3 wrs wl.length (wl.flatMap wcell) :: F) (0, 0) ⟨Nat.zero_le _, rfl⟩ rfl (by repeat (first | exact keep_nil | refine keep_cons rfl ?_)) (Ent.refl _) ?_
  rintro ⟨i, u⟩ ⟨hi, hu⟩ ih
  simp only at hi hu
  have hub : u ≤ i * 1048576 := by rw [hu]; exact used_bound hnn _ _ (by rw [List.length_take]; omega)
  (refine go ?_)
  refine K_condP rfl rfl ?_ ?_
  · intro hlt
    simp only at hlt
    have hi' : i < l.length := by omega
    obtain ⟨x, hx⟩ : ∃ x, l[i]? = some x := ⟨l[i], by simp⟩
    have hg : ∀ q, q < 2 → (l.flatMap ncell)[i * 2 + q]? = (ncell x)[q]? := fun q hq => chunk_get ncell_len hx q hq
    obtain ⟨bb, oo, cc, hsl⟩ := hv.some (by rw [← List.length_pos_iff, chunk_len ncell_len]; omega)
    simp only [Value.slice.injEq, true_and] at hsl
    obtain ⟨rfl, rfl⟩ := hsl
    have hxn := hln x (List.mem_of_getElem? hx)
    obtain ⟨bv, hbv⟩ : ∃ v, nowL[x.2]? = some v := ⟨nowL[x.2]'(by omega), by simp⟩
    obtain ⟨bs, hbf, hbs⟩ := hnow.left hbv
    have hbl := hnn bs (List.mem_of_getElem? hbf)
    have hfile : m.file x.2 = bs := by unfold RM.file; rw [List.getD_eq_getElem?_getD, hbf]; rfl
    obtain ⟨ba, bc, rfl, _⟩ := hbs.shape
    refine K_ent (Ent.refl _) ?_
    refine K_slcVw 3 rfl ?_
    intro hvn
    obtain ⟨nb, no, nc', hns⟩ := hvn.some (by rw [← List.length_pos_iff]; omega)
    simp only [Value.slice.injEq, true_and] at hns
    obtain ⟨rfl, rfl⟩ := hns
    refine K_drawA (fun w => Sat G w ([pts br (cl [.int .i64 room, .slice (some ⟨nb, no, none⟩) nowL.length nc, sure, .slice (some ⟨bb, oo, none⟩) l.length cap, sts, wrs, nxt, .bool down] 61), arrS 77 nrows, slc 22 1 (.slice (some ⟨nb, no, none⟩) nowL.length nc) nowL.length nowL])) (.st 0 (.st 1 (.st 2 (.st 3 (.st 4 (.st 5 (.st 6 (.st 7 (.st 8 (.st 9 (.st 10 (.st 11 (.st 12 (.st 13 (.st 14 (.st 15 (.st 16 (.st 17 .nil)))))))))))))))))) rfl (by kernel_rfl) (by kernel_rfl) (by kernel_rfl) (fun w hw => hw.ent (Ent.pickOnly ([0, 2, 3]) rfl)) ?_
    (refine go ?_)
    refine J_at (U := tab) i 2 rfl rfl rfl rfl rfl rfl rfl rfl hi' ?_
    (refine go ?_)
    refine J_loadAtS (U := tab) 1 (i * 2 + 1) rfl rfl rfl hv (Nat.add_assoc _ _ _) (hg 1 (by omega)) rfl rfl ?_
    (refine go ?_)
    refine J_at1 (U := tab) x.2 rfl rfl rfl rfl rfl rfl rfl rfl (by omega) ?_
    (refine go ?_)
    refine J_loadAtS (U := tab) 2 x.2 rfl rfl rfl hvn rfl hbv rfl rfl ?_
    (refine go ?_)
    refine K_again ih (i + 1, u + bs.length) rfl ⟨by simp only; omega, by simp only; rw [List.take_add_one, hx, Option.toList_some, List.map_append, List.sum_append, ← hu]; simp [hfile]⟩ (by simp only; omega) (by repeat (first | exact keep_nil | refine keep_cons rfl ?_)) (Ent.refl _)
  · intro hge
    simp only at hge
    have hend : u = m.used := by rw [hu, hus, List.take_of_length_le (by omega)]
    rw [← hend] at hE
    (refine go ?_)
    refine K_return hE Try.func37 rfl _ rfl ⟨rfl, rfl⟩ ((Ent.pick [0, 1, 2, 3, 4, 5, 6] rfl).trans (rd_c _ _ _ _ _ _ _ _ _ _ _ _ _ _ _ _))
end Go.Proofs.Ytpdmbmnhgcnelaa

/- the reference's disk, part p: what it is asked. -/
set_option linter.unusedVariables false
set_option linter.unusedSimpArgs false
namespace Go.Proofs.Ytpdmbmnhgcnelaa
open Go Go.SL
def RM.new (room : Int) : RM := ⟨room, [], [], [], [[]], [], [], false⟩
theorem byteAt_get {s : ByteArray} {i : Nat} (h : i < s.size) : s.data.toList[i]? = some (byteAt s ((i : Int)).toNat) := by
  have hl : i < s.data.toList.length := h
  unfold byteAt
  rw [Int.toNat_natCast, List.getD_eq_getElem?_getD, List.getElem?_eq_getElem hl]; rfl
theorem RM.new_ok (room : Int) (h : room ≤ 1073741824) : MOk (RM.new room) 0 :=
  ⟨rfl, Nat.le_refl _, fun b hb => (by cases hb), fun b hb => (by cases hb), fun b hb => (by cases hb), Nat.le_refl _, fun st hst => (by rw [List.mem_singleton.1 hst]; exact ⟨fun x hx => (by cases hx), Nat.le_refl _⟩), fun h => (by cases h), Nat.le_refl _, fun x hx => (by cases hx), Nat.le_refl _, Nat.zero_le _, h⟩
theorem RR.setSts {D : RDk} {m : RM} (h : RR D m) (v : Value) : RR { D with sts := v, stsL := [D.lv] } { m with sts := [m.l] } := ⟨h.room, h.down, h.nxt, h.now, h.sure, h.l, All2.one h.l, h.wr⟩
attribute [local irreducible] J K Ctr Ends pts slc mapR mapI sbRow stock arrS

set_option maxRecDepth 20000 in
theorem mIsName_any (s : ByteArray) (hs : s.size ≤ 9223372036854775807) : Ctr Try.prog 27 [.string s] [] (fun v H => v = .bool (isName s) ∧ H = []) := by
  have hsz : s.data.toList.length = s.size := rfl
  refine Ctr.enter Try.func27 (by kernel_rfl) rfl Try.ntmps27 rfl rfl ?_
  intro G F R hE
  repeat' (first | (with_reducible intro _hh) | refine go1 ?_ | refine J_fork ?_ ?_ | refine J_gsP rfl rfl rfl rfl ?_ ?_ | refine K_condP rfl rfl ?_ ?_)
  · rw [isName_short (by omega)] at hE
    refine K_return hE Try.func27 rfl _ rfl ⟨rfl, rfl⟩ (Ent.fin [] 0 rfl rfl)
  · rw [isName_long (by omega)] at hE
    refine K_return hE Try.func27 rfl _ rfl ⟨rfl, rfl⟩ (Ent.fin [] 0 rfl rfl)
  rename_i hs1
  have hnm : isName s = !(s.data.toList.any fun x => !okc x) := isName_of (by omega) (by omega)
  refine K_loop (fun i : Nat => i ≤ s.size ∧ ∀ y ∈ s.data.toList.take i, okc y = true) (fun i => s.size - i) (fun i => [(0, .string s), (3, .int .i64 i)]) (fun _ => F) 0 ⟨Nat.zero_le _, by simp⟩ rfl (by repeat (first | exact keep_nil | refine keep_cons rfl ?_)) (Ent.refl _) ?_
  rintro i ⟨hi, hb⟩ ih
  (refine go ?_)
  refine K_condP rfl rfl ?_ ?_
  · intro hlt
    (refine go ?_)
    refine J_indexStr (U := tab) rfl rfl rfl rfl rfl (by omega) hlt ?_
    obtain ⟨c, hcd, hc⟩ : ∃ c, byteAt s ((i : Int)).toNat = c ∧ s.data.toList[i]? = some c := ⟨_, rfl, byteAt_get (by omega)⟩
    rw [hcd]
    have hbad : okc c = false → isName s = false := fun h => by
      rw [hnm, List.any_eq_true.2 ⟨c, List.mem_of_getElem? hc, by rw [h]; rfl⟩]; rfl
    have hgood : okc c = true → ∀ y ∈ s.data.toList.take (i + 1), okc y = true := fun h => allTake hb hc h
    repeat' (first | (with_reducible intro _hh) | refine go1 ?_ | refine J_fork ?_ ?_ | refine J_gsP rfl rfl rfl rfl ?_ ?_ | refine K_condP rfl rfl ?_ ?_)
    all_goals first
      | (have hok : okc c = true := (by unfold okc; exact decide_eq_true (by omega))
         have hg := hgood hok
         refine K_again ih (i + 1) rfl ⟨by show i + 1 ≤ _; omega, hg⟩ (by omega) (by repeat (first | exact keep_nil | refine keep_cons rfl ?_)) (Ent.refl _))
      | (have hok : okc c = false := (by unfold okc; exact decide_eq_false (by omega))
         rw [hbad hok] at hE
         refine K_return hE Try.func27 rfl _ rfl ⟨rfl, rfl⟩ (Ent.fin [] 0 rfl rfl))
      | (by_cases h46 : (c.toNat : Int) = 46
         · have hok : okc c = true := (by unfold okc; exact decide_eq_true (by omega))
           have hg := hgood hok
           (first | refine J_slot 44 ((.bool false)) rfl ((by rw [decide_eq_true h46]; rfl)) ?_ | refine K_slot 44 ((.bool false)) rfl ((by rw [decide_eq_true h46]; rfl)) ?_)
           (refine go ?_)
           refine K_again ih (i + 1) rfl ⟨by show i + 1 ≤ _; omega, hg⟩ (by omega) (by repeat (first | exact keep_nil | refine keep_cons rfl ?_)) (Ent.refl _)
         · have hok : okc c = false := (by unfold okc; exact decide_eq_false (by omega))
           rw [hbad hok] at hE
           (first | refine J_slot 44 ((.bool true)) rfl ((by rw [decide_eq_false h46]; rfl)) ?_ | refine K_slot 44 ((.bool true)) rfl ((by rw [decide_eq_false h46]; rfl)) ?_)
           (refine go ?_)
           refine K_return hE Try.func27 rfl _ rfl ⟨rfl, rfl⟩ (Ent.fin [] 0 rfl rfl))
      | trace_state
  · intro hge
    have hall : isName s = true := by
      rw [hnm, List.any_eq_false.2 (fun x hx => by rw [hb x (by rw [List.take_of_length_le (by omega)]; exact hx)]; simp)]; rfl
    rw [hall] at hE
    (refine go ?_)
    refine K_return hE Try.func27 rfl _ rfl ⟨rfl, rfl⟩ (Ent.fin [] 0 rfl rfl)

set_option maxRecDepth 20000 in
theorem mNew_any (room : Int) (h1 : 1 ≤ room) (h2 : room ≤ 1073741824) : Ctr Try.prog 8 [.int .i64 room] [] (fun v H => ∃ br D, RR D (RM.new room) ∧ v = .tuple #[ptr br, .int .i64 0] ∧ H = [rd br D]) := by
  refine Ctr.enter Try.func8 (by kernel_rfl) rfl Try.ntmps8 rfl rfl ?_
  intro G F R hE
  repeat' (first | (with_reducible intro _hh) | refine go1 ?_ | refine J_fork ?_ ?_ | refine J_gsP rfl rfl rfl rfl ?_ ?_ | refine K_condP rfl rfl ?_ ?_)
  · omega
  · omega
  refine J_buildSlice1 (U := tab) rfl rfl rfl rfl rfl rfl rfl rfl rfl (fun _ _ _ => trivial) ?_
  intro b0
  (refine go ?_)
  refine J_box rfl rfl (fun _ _ _ => trivial) ?_
  intro br
  (refine go ?_)
  refine K_ent (Ent.pick [1, 0] rfl) ?_
  refine K_ent (slc_row 58 1 b0 1 1 [.slice none 0 0] [] _ rfl (Nat.le_refl _) (by simp)) ?_
  refine K_ent (slc_lift 84 3 none _) ?_
  refine K_ent (slc_lift 22 1 none _) ?_
  refine K_ent (slc_lift 22 1 none _) ?_
  refine K_ent (arrS_nil 77 _) ?_
  refine K_ent (arrS_nil 5 _) ?_
  refine K_ent (Ent.pick [6, 0, 1, 2, 3, 5, 4] rfl) ?_
  refine K_ent (rd_c br room (.slice none 0 0) (.slice none 0 0) (.slice none 0 0) (.slice (some ⟨b0, 0, none⟩) 1 1) (.slice none 0 0) (.slice none 0 0) false [] [] [.slice none 0 0] [] [] [] _) ?_
  have hn : RIn [] 2 (.slice none 0 0) 0 [] := RIn.nil _ _ _ _
  have hD : RR ⟨room, .slice none 0 0, .slice none 0 0, .slice none 0 0, .slice (some ⟨b0, 0, none⟩) 1 1, .slice none 0 0, .slice none 0 0, false, [], [], [.slice none 0 0], [], [], []⟩ (RM.new room) :=
    ⟨rfl, rfl, BIn.nil _ _ _, All2.nil, All2.nil, hn, All2.one hn, All2.nil⟩
  refine K_return hE Try.func8 rfl _ rfl ⟨br, _, hD, rfl, rfl⟩ (Ent.fin [0] 0 rfl rfl)

set_option maxRecDepth 20000 in
theorem mSyncNames_any (br : Nat) (D : RDk) (m : RM) (hR : RR D m) : Ctr Try.prog 82 [ptr br] [rd br D] (fun v H => ∃ D', RR D' m.syncNames.2 ∧ v = .int .i64 (m.syncNames.1 : Int) ∧ H = [rd br D']) := by
  refine Ctr.enter Try.func82 (by kernel_rfl) rfl Try.ntmps82 rfl rfl ?_
  intro G F R hE
  (refine go ?_)
  refine J_call [0] rfl rfl rfl rfl (mMay_any br D m hR) rfl (fun _ _ _ _ _ => trivial) ?_
  rintro _ _ ⟨D', hD', rfl, rfl⟩
  by_cases hz : m.may.1 = 0
  case neg =>
    have hm : m.syncNames = m.may := by unfold RM.syncNames; rw [if_pos hz]
    rw [hm] at hE
    (refine go ?_)
    refine K_condP rfl rfl ?_ ?_
    · intro _
      (refine go ?_)
      refine K_return hE Try.func82 rfl _ rfl ⟨_, hD', rfl, rfl⟩ (Ent.fin [0] 0 rfl rfl)
    intro h; exact absurd (by simpa using h) hz
  have hm : m.syncNames = (0, { m.may.2 with sts := [m.may.2.l] }) := by unfold RM.syncNames; rw [if_neg (fun h => h hz)]
  rw [hm] at hE
  rw [hz]
  obtain ⟨room, now, sure, lv, sts, wrs, nxt, down, nowL, sureL, stsL, wl, arrs, nrows⟩ := D'
  have hl := hD'.l
  generalize hml : m.may.2.l = l at hl
  simp only at hl
  obtain ⟨a, cap, rfl, hcap⟩ := hl.shape
  (refine go ?_)
  refine J_ent (rd_o _ _ _ _ _ _ _ _ _ _ _ _ _ _ _ _) ?_
  (refine go ?_)
  refine J_buildSlice1 (U := tab) rfl rfl rfl rfl rfl rfl rfl rfl rfl (fun _ _ _ => trivial) ?_
  intro b0
  (refine go ?_)
  refine K_ent (slc_row 58 1 b0 1 1 [.slice a l.length cap] [] _ rfl (Nat.le_refl _) (by simp)) ?_
  refine K_ent (Ent.pick [1, 2, 3, 4, 5, 0, 7] rfl) ?_
  refine K_ent (rd_c br room now sure (.slice a l.length cap) (.slice (some ⟨b0, 0, none⟩) 1 1) wrs nxt down nowL sureL [.slice a l.length cap] wl arrs nrows _) ?_
  refine K_return hE Try.func82 rfl _ rfl ⟨_, hD'.setSts _, rfl, rfl⟩ (Ent.fin [0] 1 rfl rfl)
end Go.Proofs.Ytpdmbmnhgcnelaa

/- the reference's disk, part q: Create, Size, Read. -/
set_option linter.unusedVariables false
set_option linter.unusedSimpArgs false
namespace Go.Proofs.Ytpdmbmnhgcnelaa
open Go Go.SL
theorem RR.grow {D : RDk} {m : RM} (h : RR D m) (v1 v2 : Value) : RR { D with now := v1, sure := v2, nowL := D.nowL ++ [.slice none 0 0], sureL := D.sureL ++ [.slice none 0 0] } { m with now := m.now ++ [[]], sure := m.sure ++ [[]] } :=
  ⟨h.room, h.down, h.nxt, h.now.snoc (BIn.nil _ _ _), h.sure.snoc (BIn.nil _ _ _), h.l, h.sts, h.wr⟩
theorem RR.setRows {D : RDk} {m : RM} (h : RR D m) {nrows' : Arrs} (hs : ∀ x ∈ D.nrows, x ∈ nrows') : RR { D with nrows := nrows' } m :=
  ⟨h.room, h.down, h.nxt, h.now, h.sure, h.l.mono hs, h.sts.mono fun _ _ hh => hh.mono hs, h.wr⟩
theorem RR.setArrs {D : RDk} {m : RM} (h : RR D m) {arrs' : Arrs} (hs : ∀ x ∈ D.arrs, x ∈ arrs') : RR { D with arrs := arrs' } m :=
  ⟨h.room, h.down, h.nxt.mono hs, h.now.mono fun _ _ hh => hh.mono hs, h.sure.mono fun _ _ hh => hh.mono hs, h.l, h.sts, h.wr.mono fun _ _ hh => ⟨hh.1, hh.2.1, hh.2.2.mono hs⟩⟩
attribute [local irreducible] J K Ctr Ends pts slc mapR mapI sbRow stock arrS

set_option maxRecDepth 20000 in
theorem mCreate_any (br k : Nat) (D : RDk) (m : RM) (hR : RR D m) (hM : MOk m k) (name : ByteArray) (hs : name.size ≤ 9223372036854775807) :
    Ctr Try.prog 11 [ptr br, .string name] [rd br D] (fun v H => ∃ D', RR D' (m.create (isName name) name).2 ∧ v = .int .i64 ((m.create (isName name) name).1 : Int) ∧ H = [rd br D']) := by
  refine Ctr.enter Try.func11 (by kernel_rfl) rfl Try.ntmps11 rfl rfl ?_
  intro G F R hE
  (refine go ?_)
  refine J_call [] rfl rfl rfl rfl (mIsName_any name hs) rfl (fun _ _ _ _ _ => trivial) ?_
  rintro _ _ ⟨rfl, rfl⟩
  cases hnm : isName name with
  | false =>
    rw [hnm] at hE
    have hm : m.create false name = (1, m) := by unfold RM.create; rw [if_pos rfl]
    rw [hm] at hE
    (refine go ?_)
    refine K_return hE Try.func11 rfl _ rfl ⟨_, hR, rfl, rfl⟩ (Ent.fin [0] 0 rfl rfl)
  | true =>
    rw [hnm] at hE
    (refine go ?_)
    refine J_call [0] rfl rfl rfl rfl (mMay_any br D m hR) rfl (fun _ _ _ _ _ => trivial) ?_
    rintro _ _ ⟨D', hD', rfl, rfl⟩
    by_cases hz : m.may.1 = 0
    case neg =>
      have hm : m.create true name = m.may := by unfold RM.create; rw [if_neg (by simp), if_pos hz]
      rw [hm] at hE
      (refine go ?_)
      (first | refine J_slot 13 ((.bool true)) rfl ((congrArg Value.bool (decide_eq_true (by simpa using hz)))) ?_ | refine K_slot 13 ((.bool true)) rfl ((congrArg Value.bool (decide_eq_true (by simpa using hz)))) ?_)
      (refine go ?_)
      refine K_return hE Try.func11 rfl _ rfl ⟨_, hD', rfl, rfl⟩ (Ent.fin [0] 0 rfl rfl)
    have hMm := hM.may
    rw [hz]
    have hm1 : m.create true name = if (m.may.2.find name).isSome = true then (5, m.may.2) else if 200 ≤ m.may.2.l.length then (3, m.may.2) else (0, ({ m.may.2 with now := m.may.2.now ++ [[]], sure := m.may.2.sure ++ [[]] } : RM).named (RM.with_ m.may.2.l (name, m.may.2.now.length))) := by
      unfold RM.create; rw [if_neg (by simp), if_neg (fun h => h hz)]
    rw [hm1] at hE
    generalize m.may.2 = m1 at hD' hMm hE
    (refine go ?_)
    refine J_call [0] rfl rfl rfl rfl (mFind_any br k D' m1 hD' hMm name) rfl (fun _ _ _ _ _ => trivial) ?_
    rintro _ _ ⟨rfl, rfl⟩
    obtain ⟨room, now, sure, lv, sts, wrs, nxt, down, nowL, sureL, stsL, wl, arrs, nrows⟩ := D'
    have hl := hD'.l
    have hlk := hMm.ll
    have hkk := hMm.kk
    have hnl : nowL.length = m1.now.length := hD'.now.1
    have hul : sureL.length = m1.sure.length := hD'.sure.1
    have hnk := hMm.nk
    have hsn := hMm.nl
    have hsk := hMm.sk
    generalize hml : m1.l = l at hl hlk hE
    simp only at hl
    obtain ⟨a, cap, rfl, hcap⟩ := hl.shape
    refine J_ent (rd_o _ _ _ _ _ _ _ _ _ _ _ _ _ _ _ _) ?_
    refine J_shape 3 rfl ?_
    rintro na nc rfl
    refine J_shape 4 rfl ?_
    rintro ua uc rfl
    cases hfd : m1.find name with
    | some f =>
      rw [hfd] at hE
      simp only [fI]
      repeat' (first | (with_reducible intro _hh) | refine go1 ?_ | refine J_fork ?_ ?_ | refine J_gsP rfl rfl rfl rfl ?_ ?_ | refine K_condP rfl rfl ?_ ?_)
      · rw [if_pos (show (some f).isSome = true from rfl)] at hE
        refine K_return hE Try.func11 rfl _ rfl ⟨_, hD', rfl, rfl⟩ ((Ent.pick [0, 1, 2, 3, 4, 5, 6] rfl).trans (rd_c _ _ _ _ _ _ _ _ _ _ _ _ _ _ _ _))
      all_goals (exfalso; omega)
    | none =>
    rw [hfd, if_neg (by simp)] at hE
    simp only [fI]
    repeat' (first | (with_reducible intro _hh) | refine go1 ?_ | refine J_fork ?_ ?_ | refine J_gsP rfl rfl rfl rfl ?_ ?_ | refine K_condP rfl rfl ?_ ?_)
    · rw [if_pos (by omega)] at hE
      refine K_return hE Try.func11 rfl _ rfl ⟨_, hD', rfl, rfl⟩ ((Ent.pick [0, 1, 2, 3, 4, 5, 6] rfl).trans (rd_c _ _ _ _ _ _ _ _ _ _ _ _ _ _ _ _))
    rw [if_neg (by omega)] at hE
    refine J_buildSlice1 (U := tab) rfl rfl rfl rfl rfl rfl rfl rfl rfl (fun _ _ _ => trivial) ?_
    intro b1
    refine J_append (U := tab) (mm := 1) (news := [.slice none 0 0]) 4 0 rfl rfl rfl rfl rfl rfl rfl rfl rfl rfl rfl rfl (Vw.pts rfl) rfl (by simp [Value.oneCell']) (by omega) (by show _ * 24 ≤ _; omega) (fun _ => rfl) (fun _ _ _ => trivial) ?_
    intro v1
    rw [show nowL.length + 1 = (nowL ++ [Value.slice none 0 0]).length from by simp]
    refine J_shape 4 rfl ?_
    rintro a1 c1 rfl
    refine J_ent (Ent.drop _ _) ?_
    (refine go ?_)
    refine J_buildSlice1 (U := tab) rfl rfl rfl rfl rfl rfl rfl rfl rfl (fun _ _ _ => trivial) ?_
    intro b2
    refine J_append (U := tab) (mm := 1) (news := [.slice none 0 0]) 5 0 rfl rfl rfl rfl rfl rfl rfl rfl rfl rfl rfl rfl (Vw.pts rfl) rfl (by simp [Value.oneCell']) (by omega) (by show _ * 24 ≤ _; omega) (fun _ => rfl) (fun _ _ _ => trivial) ?_
    intro v2
    rw [show sureL.length + 1 = (sureL ++ [Value.slice none 0 0]).length from by simp]
    refine J_shape 5 rfl ?_
    rintro a2 c2 rfl
    refine J_ent (Ent.drop _ _) ?_
    (refine go ?_)
    have hlen1 : (nowL ++ [Value.slice none 0 0]).length = nowL.length + 1 := by simp
    refine K_drawA (fun w => Sat G w ([pts br (cl [.int .i64 room, .slice a1 (nowL ++ [Value.slice none 0 0]).length c1, .slice a2 (sureL ++ [Value.slice none 0 0]).length c2, .slice a l.length cap, sts, wrs, nxt, .bool down] 61)])) (.st 0 (.st 1 (.st 2 (.st 3 (.st 4 (.st 5 (.st 6 (.st 7 (.st 8 (.st 9 (.st 10 (.st 11 (.st 12 (.act 13 (.act 14 .nil))))))))))))))) rfl (by kernel_rfl) (by kernel_rfl) (by kernel_rfl) (fun w hw => hw.ent (Ent.pickOnly ([0]) rfl)) ?_
    (refine go ?_)
    refine J_slot 59 (.agg (ncell (name, nowL.length)).toArray) rfl (by rw [show ((nowL ++ [Value.slice none 0 0]).length : Int) - 1 = (nowL.length : Int) from by omega]; rfl) ?_
    refine J_call [2] rfl rfl rfl rfl (mWith_any (arrS 77 nrows) _ l (name, nowL.length) (hl.view _) (by omega)) rfl (fun _ _ w hp hw => by obtain rfl := hp; exact hw.ent (Ent.pickOnly [2] rfl)) ?_
    rintro r3 _ rfl
    refine J_ent (Ent.join _ _ _) ?_
    refine J_open (row_slcO 77 2 _ _ _ _) ?_
    rintro nrows' ⟨hrin, hsubr⟩
    refine J_ent (Ent.pick [1, 2, 0, 3, 4, 5, 6] rfl) ?_
    refine J_ent (rd_c br room (Value.slice a1 (nowL ++ [Value.slice none 0 0]).length c1) (Value.slice a2 (sureL ++ [Value.slice none 0 0]).length c2) (Value.slice a l.length cap) sts wrs nxt down (nowL ++ [Value.slice none 0 0]) (sureL ++ [Value.slice none 0 0]) stsL wl arrs nrows' _) ?_
    rw [← hnl] at hE
    have hD2 := (hD'.grow (.slice a1 (nowL ++ [Value.slice none 0 0]).length c1) (.slice a2 (sureL ++ [Value.slice none 0 0]).length c2)).setRows hsubr
    (refine go ?_)
    refine J_call [0] rfl rfl rfl rfl (mNamed_any br k _ _ hD2 (by simp only; omega) _ _ hrin) rfl (fun _ _ _ _ _ => trivial) ?_
    rintro _ _ ⟨D3, hD3, rfl⟩
    (refine go ?_)
    refine K_return hE Try.func11 rfl _ rfl ⟨_, hD3, rfl, rfl⟩ (Ent.fin [0] 0 rfl rfl)end Go.Proofs.Ytpdmbmnhgcnelaa

/- the reference's disk, part r: Size, Read. -/
set_option linter.unusedVariables false
set_option linter.unusedSimpArgs false
namespace Go.Proofs.Ytpdmbmnhgcnelaa
open Go Go.SL
theorem RM.find_lt {m : RM} {k : Nat} (h : MOk m k) {name : ByteArray} {f : Nat} (hf : m.find name = some f) : f < m.now.length := by
  unfold RM.find at hf
  obtain ⟨x, hx, rfl⟩ := Option.map_eq_some_iff.1 hf
  exact h.l x (List.mem_of_find?_eq_some hx)
theorem RR.file {D : RDk} {m : RM} (h : RR D m) {k : Nat} (hM : MOk m k) {f : Nat} (hf : f < m.now.length) : ∃ v, D.nowL[f]? = some v ∧ BIn D.arrs v (m.file f) ∧ (m.file f).length ≤ 1048576 := by
  obtain ⟨bs, hbs⟩ : ∃ b, m.now[f]? = some b := ⟨m.now[f], by simp⟩
  obtain ⟨v, hv, hb⟩ := h.now.right hbs
  have hfile : m.file f = bs := by unfold RM.file; rw [List.getD_eq_getElem?_getD, hbs]; rfl
  rw [hfile]
  exact ⟨v, hv, hb, hM.now bs (List.mem_of_getElem? hbs)⟩
attribute [local irreducible] J K Ctr Ends pts slc mapR mapI sbRow stock arrS

set_option maxRecDepth 20000 in
theorem mSize_any (br k : Nat) (D : RDk) (m : RM) (hR : RR D m) (hM : MOk m k) (name : ByteArray) :
    Ctr Try.prog 45 [ptr br, .string name] [rd br D] (fun v H => v = .tuple #[.int .i64 ((m.size name).1 : Int), .int .i64 ((m.size name).2 : Int)] ∧ H = [rd br D]) := by
  refine Ctr.enter Try.func45 (by kernel_rfl) rfl Try.ntmps45 rfl rfl ?_
  intro G F R hE
  (refine go ?_)
  refine J_call [0] rfl rfl rfl rfl (mFind_any br k D m hR hM name) rfl (fun _ _ _ _ _ => trivial) ?_
  rintro _ _ ⟨rfl, rfl⟩
  cases hfd : m.find name with
  | none =>
    have hm : m.size name = (0, 4) := by unfold RM.size; rw [hfd]
    rw [hm] at hE
    simp only [fI]
    (refine go ?_)
    refine K_return hE Try.func45 rfl _ rfl ⟨rfl, rfl⟩ (Ent.fin [0] 0 rfl rfl)
  | some f =>
    have hfl := RM.find_lt hM hfd
    obtain ⟨fv, hfv, hb, hlen⟩ := hR.file hM hfl
    have hm : m.size name = ((m.file f).length, 0) := by unfold RM.size; rw [hfd]
    rw [hm] at hE
    simp only [fI]
    obtain ⟨room, now, sure, lv, sts, wrs, nxt, down, nowL, sureL, stsL, wl, arrs, nrows⟩ := D
    simp only at hfv hb
    obtain ⟨ba, bc, rfl, hbc⟩ := hb.shape
    refine J_ent (rd_o _ _ _ _ _ _ _ _ _ _ _ _ _ _ _ _) ?_
    refine J_shape 3 rfl ?_
    rintro na nc rfl
    refine J_slcVw 3 rfl ?_
    intro hvn
    have hfn := (List.getElem?_eq_some_iff.1 hfv).1
    obtain ⟨nb, no, nc', hns⟩ := hvn.some (by rw [← List.length_pos_iff]; omega)
    simp only [Value.slice.injEq, true_and] at hns
    obtain ⟨rfl, rfl⟩ := hns
    repeat' (first | (with_reducible intro _hh) | refine go1 ?_ | refine J_fork ?_ ?_ | refine J_gsP rfl rfl rfl rfl ?_ ?_ | refine K_condP rfl rfl ?_ ?_ | refine J_at1 (U := tab) f rfl rfl rfl rfl rfl rfl rfl rfl hfn ?_ | refine J_loadAt (U := tab) 3 f rfl rfl rfl hvn rfl hfv rfl rfl ?_)
    refine K_return hE Try.func45 rfl _ rfl ⟨rfl, rfl⟩ ((Ent.pick [0, 1, 2, 3, 4, 5, 6] rfl).trans (rd_c _ _ _ _ _ _ _ _ _ _ _ _ _ _ _ _))

set_option maxRecDepth 20000 in
theorem mRead_any (br k : Nat) (D : RDk) (m : RM) (hR : RR D m) (hM : MOk m k) (name : ByteArray) (at_ n : Int) (ha : -9223372036854775808 ≤ at_ ∧ at_ ≤ 9223372036854775807) (hn : -9223372036854775808 ≤ n ∧ n ≤ 9223372036854775807) :
    Ctr Try.prog 46 [ptr br, .string name, .int .i64 at_, .int .i64 n] [rd br D] (fun v H => ∃ (a : Option Addr) (c : Nat), v = .tuple #[.slice a (m.read name at_ n).1.length c, .int .i64 ((m.read name at_ n).2 : Int)] ∧ H = [slc 5 1 (.slice a (m.read name at_ n).1.length c) (m.read name at_ n).1.length (bV (m.read name at_ n).1), rd br D]) := by
  have hfl := fun f hf => RM.find_lt hM (name := name) (f := f) hf
  have hff := fun f hf => hR.file hM (f := f) hf
  have hdn := hR.down
  have hfa := mFind_any br k D m hR hM name
  obtain ⟨room, now, sure, lv, sts, wrs, nxt, down, nowL, sureL, stsL, wl, arrs, nrows⟩ := D
  simp only at hff hdn
  refine Ctr.enter Try.func46 (by kernel_rfl) rfl Try.ntmps46 rfl rfl ?_
  intro G F R hE
  (refine K_ent (rd_o _ _ _ _ _ _ _ _ _ _ _ _ _ _ _ _) ?_)
  cases down with
  | true =>
    have hm : m.read name at_ n = ([], 7) := by unfold RM.read; rw [if_pos hdn.symm]
    rw [hm] at hE
    (refine go ?_)
    refine K_ent (slc_lift 5 1 none _) ?_
    (refine K_ent (Ent.pick ([1, 2, 3, 4, 5, 6, 7]) rfl) ?_; refine K_ent (rd_c _ _ _ _ _ _ _ _ _ _ _ _ _ _ _ _) ?_)
    refine K_return hE Try.func46 rfl _ rfl ⟨none, 0, rfl, rfl⟩ (Ent.fin [1, 0] 0 rfl rfl)
  | false =>
    (refine go ?_)
    refine J_ent (rd_c _ _ _ _ _ _ _ _ _ _ _ _ _ _ _ _) ?_
    refine J_call [0] rfl rfl rfl rfl (hfa) rfl (fun _ _ _ _ _ => trivial) ?_
    rintro _ _ ⟨rfl, rfl⟩
    cases hfd : m.find name with
    | none =>
      have hm : m.read name at_ n = ([], 4) := by unfold RM.read; rw [if_neg (by rw [← hdn]; simp), hfd]
      rw [hm] at hE
      simp only [fI]
      refine J_ent (rd_o _ _ _ _ _ _ _ _ _ _ _ _ _ _ _ _) ?_
      (refine go ?_)
      refine K_ent (slc_lift 5 1 none _) ?_
      (refine K_ent (Ent.pick ([1, 2, 3, 4, 5, 6, 7]) rfl) ?_; refine K_ent (rd_c _ _ _ _ _ _ _ _ _ _ _ _ _ _ _ _) ?_)
      refine K_return hE Try.func46 rfl _ rfl ⟨none, 0, rfl, rfl⟩ (Ent.fin [1, 0] 0 rfl rfl)
    | some r =>
      have hm : m.read name at_ n = if at_ < 0 ∨ n < 0 ∨ ((m.file r).length : Int) < at_ ∨ ((m.file r).length : Int) - at_ < n then ([], 1) else (((m.file r).drop at_.toNat).take n.toNat, 0) := by
        unfold RM.read; rw [if_neg (by rw [← hdn]; simp), hfd]
      rw [hm] at hE
      obtain ⟨bv, hbv, hbs, hbl⟩ := hff r (hfl r hfd)
      generalize m.file r = bs at hbs hbl hE
      simp only [fI]
      obtain ⟨ba, bc, rfl, hbc⟩ := hbs.shape
      have hrn := (List.getElem?_eq_some_iff.1 hbv).1
      refine J_ent (rd_o _ _ _ _ _ _ _ _ _ _ _ _ _ _ _ _) ?_
      refine J_shape 3 rfl ?_
      rintro na nc rfl
      refine J_slcVw 3 rfl ?_
      intro hvn
      obtain ⟨nb, no, nc', hns⟩ := hvn.some (by rw [← List.length_pos_iff]; omega)
      simp only [Value.slice.injEq, true_and] at hns
      obtain ⟨rfl, rfl⟩ := hns
      repeat' (first | (with_reducible intro _hh) | refine go1 ?_ | refine J_fork ?_ ?_ | refine J_gsP rfl rfl rfl rfl ?_ ?_ | refine K_condP rfl rfl ?_ ?_ | refine J_at1 (U := tab) r rfl rfl rfl rfl rfl rfl rfl rfl hrn ?_ | refine J_loadAt (U := tab) 3 r rfl rfl rfl hvn rfl hbv rfl rfl ?_)
      any_goals (
        rw [if_pos (by omega)] at hE
        refine K_ent (slc_lift 5 1 none _) ?_
        (refine K_ent (Ent.pick ([1, 2, 3, 4, 5, 6, 7]) rfl) ?_; refine K_ent (rd_c _ _ _ _ _ _ _ _ _ _ _ _ _ _ _ _) ?_)
        refine K_return hE Try.func46 rfl _ rfl ⟨none, 0, rfl, rfl⟩ (Ent.fin [1, 0] 0 rfl rfl))
      rw [if_neg (by omega)] at hE
      obtain ⟨p, rfl⟩ := Int.eq_ofNat_of_zero_le (a := at_) (by omega)
      obtain ⟨q, rfl⟩ := Int.eq_ofNat_of_zero_le (a := n) (by omega)
      simp only [Int.toNat_natCast] at hE
      refine J_buildSlice1 (U := tab) rfl rfl rfl rfl rfl rfl rfl rfl rfl (fun _ _ _ => trivial) ?_
      intro b0
      (refine go ?_)
      refine J_at1 (U := tab) r rfl rfl rfl rfl rfl rfl rfl rfl hrn ?_
      refine J_loadAt (U := tab) 4 r rfl rfl rfl hvn rfl hbv rfl rfl ?_
      (refine go ?_)
      refine J_sliceAny (U := tab) (p := (p : Int)) (q := (p : Int) + (q : Int)) rfl rfl rfl rfl rfl rfl rfl (by omega) (by omega) (.inr (by omega)) ?_
      refine J_slot 64 (.slice (sliceAt ba bc p 1) q (bc - p)) rfl (by simp only [Int.toNat_natCast]; congr 1; omega) ?_
      have hb2 := hbs.cut p q (by omega)
      have hl2 : ((bs.drop p).take q).length = q := by rw [List.length_take, List.length_drop]; omega
      refine J_ent (slc_row 5 1 b0 0 0 [] [] _ rfl (Nat.le_refl _) (by simp)) ?_
      refine J_append (U := tab) (mm := q) (news := bV ((bs.drop p).take q)) 0 2 rfl rfl rfl rfl rfl rfl rfl rfl rfl rfl rfl rfl (by have := hb2.view 5; rw [hl2] at this; exact this) (by show _ = _ * 1; rw [bV_length]; omega) (bV_one _) (by omega) (by show _ * 1 ≤ _; omega) (fun _ => rfl) (fun _ _ _ => trivial) ?_
      intro v1
      rw [show (0 : Nat) + q = ((bs.drop p).take q).length from by omega, List.nil_append]
      refine J_shape 0 rfl ?_
      rintro a1 c1 rfl
      (refine go ?_)
      (refine K_ent (Ent.pick ([1, 2, 3, 4, 5, 6, 7]) rfl) ?_; refine K_ent (rd_c _ _ _ _ _ _ _ _ _ _ _ _ _ _ _ _) ?_)
      refine K_return hE Try.func46 rfl _ rfl ⟨a1, c1, rfl, rfl⟩ (Ent.fin [1, 0] 0 rfl rfl)
end Go.Proofs.Ytpdmbmnhgcnelaa

