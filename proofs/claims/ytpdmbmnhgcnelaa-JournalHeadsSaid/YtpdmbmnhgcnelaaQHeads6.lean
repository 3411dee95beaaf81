/- Texts of one claim, joined: Fs0, Fs, Fr, Ja, Jb, Jc. -/
import Derived.Test.YtpdmbmnhgcnelaaQHeads3
import Derived.Test.YtpdmbmnhgcnelaaQHeads4
import Derived.Test.YtpdmbmnhgcnelaaQHeads5
/- files, part s0: plain laws for Crash. -/
set_option linter.unusedVariables false
set_option linter.unusedSimpArgs false
namespace Go.Proofs.Ytpdmbmnhgcnelaa
open Go Go.SL
attribute [local irreducible] J K Ctr Ends pts slc mapR mapI sbRow stock arrS

abbrev Fss := List (Nat × List UInt8 × List UInt8)
/-- The memory's files are these. -/
structure FilesAre (arrs0 arrs : Arrs) (files : List (Nat × Value × Value)) (fs : Fss) (ids : List Nat) : Prop where
  all : All2 (fun x y => x.1 = y.1 ∧ BIn arrs x.2.1 y.2.1 ∧ BIn arrs x.2.2 y.2.2) files fs
  sub : ∀ x ∈ arrs0, x ∈ arrs
  ids : fs.map (·.1) = ids
  small : ∀ x ∈ fs, x.2.1.length ≤ 1048576 ∧ x.2.2.length ≤ 1048576
def toldAt (stay : List UInt8) (i : Nat) : Bool := decide (i / 8 < stay.length ∧ ((stay.getD (i / 8) 0).toNat / 2 ^ (i % 8)) % 2 = 1)
theorem map_one (g : Nat × List UInt8 × List UInt8 → Nat × List UInt8 × List UInt8) {fs : Fss} (hn : (fs.map (·.1)).Nodup) {i f : Nat} {x : List UInt8 × List UInt8} (hi : fs[i]? = some (f, x)) : (fs.map fun y => if y.1 = f then g y else y) = fs.set i (g (f, x)) := by
  induction fs generalizing i with
  | nil => simp at hi
  | cons y l ih =>
    simp only [List.map_cons, List.nodup_cons] at hn
    cases i with
    | zero =>
      simp at hi
      subst hi
      simp only [List.map_cons, if_true, List.set_cons_zero, List.cons.injEq, true_and]
      rw [List.map_congr_left (g := id) (fun z hz => ?_), List.map_id]
      have : z.1 ≠ f := fun e => hn.1 (List.mem_map.2 ⟨z, hz, e⟩)
      simp [this]
    | succ i =>
      simp at hi
      have hne : y.1 ≠ f := fun e => hn.1 (List.mem_map.2 ⟨_, List.mem_of_getElem? hi, e.symm⟩)
      have := ih hn.2 hi
      simp only [List.map_cons, hne, if_false, List.set_cons_succ, this]
theorem FilesAre.get {arrs0 arrs : Arrs} {files : List (Nat × Value × Value)} {fs : Fss} {ids : List Nat} (h : FilesAre arrs0 arrs files fs ids) (hn : ids.Nodup) {f : Nat} (hf : f ∈ ids) :
    ∃ (j : Nat) (v1 v2 : Value) (n s : List UInt8), files[j]? = some (f, v1, v2) ∧ fs[j]? = some (f, n, s) ∧ BIn arrs v1 n ∧ BIn arrs v2 s ∧ n.length ≤ 1048576 ∧ s.length ≤ 1048576 ∧ (fs.find? fun x => decide (x.1 = f)) = some (f, n, s) := by
  rw [← h.ids] at hf hn
  obtain ⟨⟨f', n, s⟩, hm, rfl⟩ := List.mem_map.1 hf
  obtain ⟨i, hi⟩ := List.getElem?_of_mem hm
  obtain ⟨⟨f2, v1, v2⟩, hx, h1, h2, h3⟩ := h.all.right hi
  simp only at h1 h2 h3
  subst h1
  exact ⟨i, v1, v2, n, s, hx, hi, h2, h3, (h.small _ hm).1, (h.small _ hm).2, find_nodup hn hi⟩
theorem FilesAre.put {arrs0 arrs arrs' : Arrs} {files : List (Nat × Value × Value)} {fs : Fss} {ids : List Nat} (h : FilesAre arrs0 arrs files fs ids) (hs : ∀ x ∈ arrs, x ∈ arrs') {j f : Nat} {v1 v2 : Value} {n s : List UInt8} {y : List UInt8 × List UInt8}
    (hj : fs[j]? = some (f, y)) (h1 : BIn arrs' v1 n) (h2 : BIn arrs' v2 s) (hl : n.length ≤ 1048576 ∧ s.length ≤ 1048576) : FilesAre arrs0 arrs' (files.set j (f, v1, v2)) (fs.set j (f, n, s)) ids where
  all := All2.set (h.all.mono fun x y hxy => ⟨hxy.1, hxy.2.1.mono hs, hxy.2.2.mono hs⟩) j ⟨rfl, h1, h2⟩
  sub x hx := hs x (h.sub x hx)
  ids := by
    rw [← h.ids, List.map_set]
    apply List.ext_getElem?
    intro i
    rw [List.getElem?_set]
    split
    · rename_i e; subst e; rw [List.getElem?_map, hj]
      have : j < (fs.map (·.1)).length := by
        rw [List.length_map]
        rcases Nat.lt_or_ge j fs.length with h | h
        · exact h
        · rw [List.getElem?_eq_none h] at hj; cases hj
      simp [this]
      rcases Nat.lt_or_ge j fs.length with h | h
      · exact h
      · rw [List.getElem?_eq_none h] at hj; cases hj
    · rfl
  small x hx := by
    rcases List.mem_or_eq_of_mem_set hx with h' | rfl
    · exact h.small x h'
    · exact hl
theorem drop_cons {α : Type} {l : List α} {i : Nat} {x : α} (h : l[i]? = some x) : l.drop i = x :: l.drop (i + 1) := by
  have hlt : i < l.length := by
    rcases Nat.lt_or_ge i l.length with h' | h'
    · exact h'
    · rw [List.getElem?_eq_none h'] at h; cases h
  rw [List.drop_eq_getElem_cons hlt]
  rw [List.getElem?_eq_getElem hlt] at h; cases h; rfl
theorem lasts_some {stay : List UInt8} {torn cut : Int} {i : Nat} {ws : List (Nat × Nat × List UInt8)} {fs : Fss} {f a j : Nat} {b c n s : List UInt8} (h : ws[i]? = some (f, a, b)) (hn : (fs.map (·.1)).Nodup) (hj : fs[j]? = some (f, n, s))
    (hk : Ab.kept stay torn cut i b = some c) : Ab.lasts stay torn cut i (ws.drop i) fs = Ab.lasts stay torn cut (i + 1) (ws.drop (i + 1)) (fs.set j (f, n, wroteL s a c)) := by
  rw [drop_cons h]
  simp only [Ab.lasts, hk]
  rw [find_nodup hn hj]
  have := map_one (fun y => (y.1, y.2.1, wroteL s a c)) hn hj
  unfold Ab.updSure
  simp only [Option.map_some, Option.getD_some]
  rw [this]
theorem lasts_none {stay : List UInt8} {torn cut : Int} {i : Nat} {ws : List (Nat × Nat × List UInt8)} {fs : Fss} {f a : Nat} {b : List UInt8} (h : ws[i]? = some (f, a, b))
    (hk : Ab.kept stay torn cut i b = none) : Ab.lasts stay torn cut i (ws.drop i) fs = Ab.lasts stay torn cut (i + 1) (ws.drop (i + 1)) fs := by
  rw [drop_cons h]
  simp only [Ab.lasts, hk]
theorem kept_torn {stay : List UInt8} {torn cut : Int} {i c : Nat} {b : List UInt8} (hi : (i : Int) = torn) (hc : max 0 (min cut b.length) = (c : Int)) : Ab.kept stay torn cut i b = if c = 0 then none else some (b.take c) := by
  unfold Ab.kept
  rw [if_pos hi]
  have e : (max 0 (min cut (b.length : Int))).toNat = c := by omega
  simp only [e]
  have hcb : c ≤ b.length := by omega
  by_cases h0 : c = 0
  · simp [h0]
  · have hlen : (b.take c).length = c := by rw [List.length_take]; omega
    have : b.take c ≠ [] := fun he => by rw [he] at hlen; simp at hlen; omega
    rw [if_neg this, if_neg h0]
theorem kept_else {stay : List UInt8} {torn cut : Int} {i : Nat} {b : List UInt8} (hi : (i : Int) ≠ torn) : Ab.kept stay torn cut i b = if toldAt stay i = true then some b else none := by
  unfold Ab.kept toldAt
  rw [if_neg hi]
  simp only [decide_eq_true_eq]
/-- Files that are reached are as they surely are. -/
def mark (S : List Nat) (fs : Fss) : Fss := fs.map fun x => if x.1 ∈ S then (x.1, x.2.2, x.2.2) else x
theorem mark_nil (fs : Fss) : mark [] fs = fs := by simp [mark]
theorem mark_ext {S S' : List Nat} (fs : Fss) (h : ∀ x, x ∈ S ↔ x ∈ S') : mark S fs = mark S' fs := by
  unfold mark; apply List.map_congr_left; intro x _; simp only [h]
theorem mark_ids (S : List Nat) (fs : Fss) : (mark S fs).map (·.1) = fs.map (·.1) := by
  unfold mark; rw [List.map_map]; apply List.map_congr_left; intro x _; simp only [Function.comp]; split <;> rfl
theorem mark_set {S : List Nat} {fs : Fss} (hn : (fs.map (·.1)).Nodup) {j f : Nat} {n s : List UInt8} (hj : (mark S fs)[j]? = some (f, n, s)) : (mark S fs).set j (f, s, s) = mark (f :: S) fs := by
  have h1 := map_one (fun y => (y.1, y.2.2, y.2.2)) (by rw [mark_ids]; exact hn) hj
  rw [← h1]
  unfold mark
  rw [List.map_map]
  apply List.map_congr_left
  intro x _
  simp only [Function.comp, List.mem_cons]
  by_cases hx : x.1 ∈ S <;> by_cases hf : x.1 = f <;> simp only [hx, hf, if_true, if_false, or_true, true_or, or_false, false_or, if_pos, if_neg, not_false_eq_true] <;> simp_all
theorem lasts_ids {stay : List UInt8} {torn cut : Int} (ws : List (Nat × Nat × List UInt8)) : ∀ (i : Nat) (fs : Fss), (Ab.lasts stay torn cut i ws fs).map (·.1) = fs.map (·.1) := by
  induction ws with
  | nil => intro i fs; rfl
  | cons w ws ih =>
    intro i fs
    unfold Ab.lasts
    cases Ab.kept stay torn cut i w.2.2 with
    | none => exact ih _ _
    | some c =>
      simp only
      rw [ih]
      unfold Ab.updSure
      rw [List.map_map]; apply List.map_congr_left; intro x _; simp only [Function.comp]; split <;> rfl
/-- The disk behind a crash. -/
theorem Rel.crashed {D : Dk} {A : Ab} (h : Rel D A) {last torn cut : Int} {stay : List UInt8} {q b1 b0 : Nat} {nm : List (ByteArray × Nat)} {arrs' : Arrs} {files' : List (Nat × Value × Value)} {w p : Value} (hw : w = .slice none 0 0) (hp : p = .slice none 0 0)
    (hq : max 0 (min last ((A.states.length : Int) - 1)) = q) (hnm : A.states[q]? = some nm) (hb : (b1, ptrs nm) ∈ D.maps)
    (hF : FilesAre D.arrs arrs' files' (mark (Ab.reach (A.states ++ [nm])) (Ab.lasts stay torn cut 0 A.writes A.fs)) (A.fs.map (·.1))) :
    Rel ⟨D.room, b1, .slice (some ⟨b0, 0, none⟩) 1 1, w, p, false, D.maps, arrs', files', [b1], []⟩ (A.crash last stay torn cut) := by
  subst hw hp
  have hst : nm ∈ A.states := List.mem_of_getElem? hnm
  have e : A.crash last stay torn cut = { A with names := nm, states := [nm], writes := [], plan := [], off := false, fs := mark (Ab.reach (A.states ++ [nm])) (Ab.lasts stay torn cut 0 A.writes A.fs) } := by
    have e1 : (max 0 (min last ((A.states.length : Int) - 1))).toNat = q := by omega
    have e2 : A.states.getD (max 0 (min last ((A.states.length : Int) - 1))).toNat [] = nm := by rw [e1, List.getD_eq_getElem?_getD, hnm]; rfl
    simp only [Ab.crash, e2]; rfl
  rw [e]
  have hsub : ∀ st ∈ nm :: [nm], st ∈ A.names :: A.states := fun st hs => by
    simp only [List.mem_cons, List.not_mem_nil, or_false] at hs
    rcases hs with rfl | rfl <;> exact List.mem_cons_of_mem _ hst
  exact
  { room := h.room, off := rfl, names := hb, states := All2.one hb, fs := hF.all, writes := All2.nil, plan := BIn.nil _ _ _
    ids := by simp only; rw [hF.ids]; exact h.ids
    known := fun st hs x hx => by simp only; rw [hF.ids]; exact h.known st (hsub st hs) x hx
    knownW := by simp
    nodup := fun st hs => h.nodup st (hsub st hs)
    smallF := hF.small
    smallW := by simp
    smallN := fun st hs => h.smallN st (hsub st hs)
    smallR := h.smallR, smallP := by simp, full := by simp }
end Go.Proofs.Ytpdmbmnhgcnelaa

/- files, part s: Crash. -/
set_option linter.unusedVariables false
set_option linter.unusedSimpArgs false
namespace Go.Proofs.Ytpdmbmnhgcnelaa
open Go Go.SL
attribute [local irreducible] J K Ctr Ends pts slc mapR mapI sbRow stock arrS

set_option maxRecDepth 20000 in
theorem Crash_any (bd : Nat) (D : Dk) (A : Ab) (hR : Rel D A) (last torn cut : Int) (X : HP) (bv : Value) (stay : List UInt8) (hv : Vw X bv stay.length (bV stay)) (hsl : stay.length ≤ 9223372036854775807) (hst : A.states.length ≤ 1000000000) (hwl : A.writes.length ≤ 1000000000)
    (h1 : -9223372036854775808 ≤ last ∧ last ≤ 9223372036854775807) (h2 : -9223372036854775808 ≤ torn ∧ torn ≤ 9223372036854775807) (h3 : -9223372036854775808 ≤ cut ∧ cut ≤ 9223372036854775807) :
    Ctr Try.prog 20 [ptr bd, .int .i64 last, bv, .int .i64 torn, .int .i64 cut] [disk bd D, X] (fun v H => ∃ D', Rel D' (A.crash last stay torn cut) ∧ H = [disk bd D', X]) := by
  obtain ⟨a0, c0, rfl⟩ := hv.shape
  obtain ⟨room, bm, sts, wrs, pln, off, maps, arrs, files, stb, wl⟩ := D
  have hlen := hR.states.1
  have hwlen := hR.writes.1
  have hfull := hR.full
  have hpos : 0 < A.states.length := List.length_pos_iff.2 hfull
  simp only at hlen hwlen
  refine Ctr.enter Try.func20 (by kernel_rfl) rfl Try.ntmps20 rfl rfl ?_
  intro G F R hE
  refine K_ent (disk_o _ _ _ _ _ _ _ _ _ _ _ _ _) ?_
  refine K_shape 4 rfl ?_
  rintro sa cs rfl
  refine K_drawA (fun w => Sat G w ([pts bd (cl [.int .i64 room, .map (some bm), .slice sa stb.length cs, wrs, pln, .bool off] 56), slc 52 1 (.slice sa stb.length cs) stb.length (stb.map fun b => .map (some b))])) (.st 0 (.st 1 (.st 2 (.st 3 (.st 4 (.st 5 (.st 6 (.st 7 (.st 8 (.st 9 (.st 10 (.st 11 (.st 12 (.st 13 (.st 14 (.st 15 (.st 16 (.st 17 (.act 18 .nil))))))))))))))))))) rfl (by kernel_rfl) (by kernel_rfl) (by kernel_rfl) (fun w hw => hw.ent (Ent.pickOnly ([0, 4]) rfl)) ?_
  (refine go ?_)
  refine J_slcAt 4 rfl (by omega) ?_
  rintro bs os cs' hs hvs
  simp only [Value.slice.injEq, true_and] at hs
  obtain ⟨rfl, rfl⟩ := hs
  obtain ⟨q, hq⟩ : ∃ q : Nat, max 0 (min last ((stb.length : Int) - 1)) = q := Int.eq_ofNat_of_zero_le (by omega)
  have hqs : q < stb.length := by omega
  refine J_at1 (U := tab) q rfl rfl rfl rfl rfl rfl rfl hq hqs ?_
  obtain ⟨b1, hb1⟩ : ∃ b1, stb[q]? = some b1 := ⟨stb[q], by simp⟩
  refine J_loadAtS (U := tab) 1 q rfl rfl rfl hvs rfl (c := .map (some b1)) (by simp [hb1]) rfl rfl ?_
  (refine go ?_)
  refine J_ent (Ent.pick [5] rfl) ?_
  refine J_shape 0 rfl ?_
  rintro wa wc rfl
  (refine go ?_)
  refine K_loop (fun s : Nat × Arrs × List (Nat × Value × Value) × List (Nat × List UInt8 × List UInt8) => s.1 ≤ wl.length ∧ FilesAre arrs s.2.1 s.2.2.1 s.2.2.2 (A.fs.map (·.1)) ∧ Ab.lasts stay torn cut s.1 (A.writes.drop s.1) s.2.2.2 = Ab.lasts stay torn cut 0 A.writes A.fs) (fun s => wl.length - s.1)
    (fun s => [(0, ptr bd), (2, .slice a0 stay.length c0), (3, .int .i64 torn), (4, .int .i64 cut), (38, .slice wa wl.length wc), (39, .int .i64 wl.length), (40, .int .i64 s.1)])
    (fun s => slc 82 3 (.slice wa wl.length wc) wl.length (wcells wl) :: pts bd (cl [.int .i64 room, .map (some b1), .slice (some ⟨bs, os, none⟩) stb.length cs, .slice wa wl.length wc, pln, .bool off] 56) :: stock mapG maps :: arrS 5 s.2.1 :: stock fileG s.2.2.1 :: slc 52 1 (.slice (some ⟨bs, os, none⟩) stb.length cs) stb.length (stb.map fun b => .map (some b)) :: X :: F)
    (0, arrs, files, A.fs) ⟨by simp, ⟨hR.fs, fun x h => h, rfl, hR.smallF⟩, rfl⟩ rfl (by repeat (first | exact keep_nil | refine keep_cons rfl ?_)) (Ent.refl _) ?_
  rintro ⟨i, arrs1, files1, fs1⟩ ⟨hi, hF, hL⟩ ih
  simp only at hi hF hL
  (refine go ?_)
  refine K_condP rfl rfl ?_ ?_
  · intro hlt
    simp only at hlt
    have hi' : i < wl.length := by omega
    obtain ⟨⟨fx, ax, bx⟩, hx⟩ : ∃ x, wl[i]? = some x := ⟨wl[i], by simp [hi']⟩
    obtain ⟨⟨fy, ay, by_⟩, hy, hxy1, hxy2, hxy3⟩ := hR.writes.left hx
    simp only at hxy1 hxy2 hxy3
    subst hxy1 hxy2
    have hb3 := hxy3.mono hF.sub
    obtain ⟨ba, bc, rfl, hbc⟩ := hxy3.shape
    (refine go ?_)
    refine J_slcVw 0 rfl ?_
    intro hvw
    obtain ⟨bw, ow, cw, hsw⟩ := hvw.some (by rw [← List.length_pos_iff, wcells_eq, chunk_len lateC_len]; omega)
    simp only [Value.slice.injEq, true_and] at hsw
    obtain ⟨rfl, rfl⟩ := hsw
    refine J_at (U := tab) i 3 rfl rfl rfl rfl rfl rfl rfl rfl hi' ?_
    refine J_loadElem (U := tab) (es := lateC (fx, ax, .slice ba by_.length bc)) 0 (i * 3) rfl rfl rfl hvw rfl (fun q v hq => ?_) rfl rfl rfl ?_
    · have hj3 : q < 3 := by
        rcases Nat.lt_or_ge q 3 with h | h
        · exact h
        · rw [List.getElem?_eq_none (by rw [lateC_len]; exact h)] at hq; cases hq
      rw [wcells_eq, chunk_get lateC_len hx q hj3]; exact hq
    refine J_alloc (U := tab) rfl rfl rfl (fun _ _ _ => trivial) ?_
    intro bw1
    (refine go ?_)
    refine J_shr rfl rfl rfl (by omega) ?_
    refine J_slot 46 (.int .i64 ((i / 8 : Nat) : Int)) rfl (congrArg (Value.int .i64) (by show (i : Int) / 8 = ((i / 8 : Nat) : Int); omega)) ?_
    (refine go ?_)
    refine J_gsP rfl rfl rfl rfl ?_ ?_
    case' refine_2 =>
      intro hs1
      (refine go ?_)
      refine K_slot 12 (.bool (toldAt stay i)) rfl (congrArg Value.bool (by
        unfold toldAt
        exact (decide_eq_false (by omega)).symm)) ?_
    case' refine_1 =>
      intro hs1
      obtain ⟨bst, ost, cst, hsst⟩ := hv.some (by rw [← List.length_pos_iff, bV_length]; omega)
      simp only [Value.slice.injEq, true_and] at hsst
      obtain ⟨rfl, rfl⟩ := hsst
      (refine go ?_)
      refine J_shr rfl rfl rfl (by omega) ?_
      refine J_slot 53 (.int .i64 ((i / 8 : Nat) : Int)) rfl (congrArg (Value.int .i64) (by show (i : Int) / 8 = ((i / 8 : Nat) : Int); omega)) ?_
      have hi8 : i / 8 < stay.length := by omega
      (refine go ?_)
      refine J_at1 (U := tab) (i / 8) rfl rfl rfl rfl rfl rfl rfl rfl hi8 ?_
      (refine go ?_)
      obtain ⟨sx, hsx⟩ : ∃ x, stay[i / 8]? = some x := ⟨stay[i / 8]'hi8, by simp⟩
      refine J_loadV (U := tab) 7 rfl rfl rfl (hv.cell (bV_get hsx)) rfl rfl ?_
      (refine go ?_)
      refine J_slot 57 (.int .i64 ((i % 2 ^ 3 : Nat) : Int)) rfl (congrArg (Value.int .i64) (and_mask_i64 i 3 (by omega) (by omega))) ?_
      (refine go ?_)
      refine J_shr rfl rfl rfl (by omega) ?_
      have hsh : (sx.toNat : Int) / 2 ^ (min (((i % 2 ^ 3 : Nat) : Int).toNat) IntKind.u8.bits) = ((sx.toNat / 2 ^ (i % 8) : Nat) : Int) := by
        have e1 : min (((i % 2 ^ 3 : Nat) : Int).toNat) IntKind.u8.bits = i % 8 := by show min (i % 8) 8 = i % 8; omega
        rw [e1]; simp
      refine J_slot 58 (.int .u8 ((sx.toNat / 2 ^ (i % 8) : Nat) : Int)) rfl (congrArg (Value.int .u8) hsh) ?_
      have hsb : sx.toNat / 2 ^ (i % 8) < 256 := Nat.lt_of_le_of_lt (Nat.div_le_self _ _) sx.toNat_lt
      (refine go ?_)
      refine K_slot 12 (.bool (toldAt stay i)) rfl (congrArg Value.bool (by
        have := and_one_u8 _ hsb
        unfold toldAt
        rw [decide_eq_decide, List.getD_eq_getElem?_getD, hsx]
        show IntKind.u8.wrap _ = 1 ↔ _
        rw [this]
        simp only [Option.getD_some]
        omega)) ?_
    all_goals (
      generalize htd : toldAt stay i = told
      clear hs1
      (refine go ?_)
      refine K_condP rfl rfl ?_ ?_
      · intro htorn
        (refine go ?_)
        obtain ⟨c, hc⟩ : ∃ c : Nat, max 0 (min cut (by_.length : Int)) = c := Int.eq_ofNat_of_zero_le (by omega)
        have hcb : c ≤ by_.length := by omega
        refine J_sliceAny (U := tab) (p := 0) (q := max 0 (min cut (by_.length : Int))) rfl rfl rfl rfl rfl rfl rfl (Int.le_refl _) (by omega) (.inr (by omega)) ?_
        refine J_slot 73 (.slice (sliceAt ba bc 0 1) c bc) rfl (by simp only [hc]; rfl) ?_
        (refine go ?_)
        refine K_condP rfl rfl ?_ ?_
        · intro hc0
          have hc0' : c ≠ 0 := by intro e; subst e; simp at hc0
          have hk : Ab.kept stay torn cut i by_ = some (by_.take c) := by rw [kept_torn htorn hc, if_neg hc0']
          have hb' : BIn arrs1 (.slice (sliceAt ba bc 0 1) c bc) (by_.take c) := hb3.cut 0 c (by omega)
          have hbl : (by_.take c).length = c := by rw [List.length_take]; omega
          (obtain ⟨j, v1, v2, n, s, hj, hfj, hb1', hb2', hnl, hsl', hfind⟩ := hF.get hR.ids (hR.knownW _ (List.mem_of_getElem? hy)); have hwb := hR.smallW _ (List.mem_of_getElem? hy); simp only at hwb; have hnd1 : (fs1.map (·.1)).Nodup := (by rw [hF.ids]; exact hR.ids); have hwl2 := wroteL_len s ax (by_.take c); refine K_ent (Ent.pick [5] rfl) ?_; refine K_ent (stock_out fileG hj _) ?_; refine K_drawA (fun w => Sat G w ([pts bw1 (cl [ptr fx, .int .i64 ax, (.slice (sliceAt ba bc 0 1) c bc)] 82), pts fx (cl [v1, v2] 70)])) (.st 0 (.st 1 (.st 2 (.st 3 (.st 4 (.st 5 (.st 6 (.st 7 (.st 8 (.st 9 (.st 10 (.act 11 (.st 12 (.st 13 (.act 14 .nil))))))))))))))) rfl (by kernel_rfl) (by kernel_rfl) (by kernel_rfl) (fun w hw => hw.ent (Ent.pickOnly ([2, 0]) rfl)) ?_; (refine go ?_); refine J_call [6] rfl rfl rfl rfl (wrote_any (arrS 5 arrs1) v2 _ s (by_.take c) ax (hb2'.view _) (hb'.view _) (by omega)) rfl (fun _ _ w hp hw => by obtain ⟨_, _, _, _, rfl⟩ := hp; exact hw.ent (Ent.pickOnly [4, 2] rfl)) ?_; rintro _ _ ⟨bl, cap2, rfl, hcap2, rfl⟩; (refine go ?_); refine K_ent (Ent.pick [2, 3] rfl) ?_; refine K_ent (stock_set fileG (y := (fx, v1, .slice (some ⟨bl, 0, none⟩) (wroteL s ax (by_.take c)).length cap2)) hj _) ?_; refine K_ent (Ent.pick [1, 2] rfl) ?_; refine K_ent (arrS_add 5 bl _ arrs1 _) ?_; have hF2 := hF.put (arrs' := (bl, bV (wroteL s ax (by_.take c))) :: arrs1) (v1 := v1) (v2 := .slice (some ⟨bl, 0, none⟩) (wroteL s ax (by_.take c)).length cap2) (n := n) (s := wroteL s ax (by_.take c)) (fun x h => List.mem_cons_of_mem _ h) hfj (hb1'.mono fun x h => List.mem_cons_of_mem _ h) (BIn.row hcap2) ⟨hnl, by omega⟩; refine K_again ih (i + 1, _, _, _) rfl ⟨hi', hF2, by rw [← hL]; exact (lasts_some hy hnd1 hfj hk).symm⟩ (by show _ - (_ + 1) < _; omega) (by repeat (first | exact keep_nil | refine keep_cons rfl ?_)) (Ent.to [3, 4, 5, 0, 1, 6, 7] 1 rfl rfl rfl))
        · intro hc0
          have hc0' : c = 0 := by rcases Nat.eq_zero_or_pos c with h | h; exact h; exact absurd (by simp; exact h) hc0
          have hk : Ab.kept stay torn cut i by_ = none := by rw [kept_torn htorn hc, if_pos hc0']
          (refine go ?_)
          (refine K_again ih (i + 1, arrs1, files1, fs1) rfl ⟨hi', hF, by rw [← hL]; exact (lasts_none hy hk).symm⟩ (by show _ - (_ + 1) < _; omega) (by repeat (first | exact keep_nil | refine keep_cons rfl ?_)) (Ent.drop _ _))
      · intro htorn
        (refine go ?_)
        have hkk := kept_else (stay := stay) (cut := cut) (b := by_) htorn
        cases told with
        | false => 
          have hk : Ab.kept stay torn cut i by_ = none := by rw [hkk, htd]; rfl
          (refine go ?_)
          (refine K_again ih (i + 1, arrs1, files1, fs1) rfl ⟨hi', hF, by rw [← hL]; exact (lasts_none hy hk).symm⟩ (by show _ - (_ + 1) < _; omega) (by repeat (first | exact keep_nil | refine keep_cons rfl ?_)) (Ent.drop _ _))
        | true =>
          have hk : Ab.kept stay torn cut i by_ = some by_ := by rw [hkk, htd]; rfl
          have hb' : BIn arrs1 (.slice ba by_.length bc) by_ := hb3
          have hbl : by_.length = by_.length := rfl
          have hcb : by_.length ≤ by_.length := Nat.le_refl _
          (refine go ?_)
          (obtain ⟨j, v1, v2, n, s, hj, hfj, hb1', hb2', hnl, hsl', hfind⟩ := hF.get hR.ids (hR.knownW _ (List.mem_of_getElem? hy)); have hwb := hR.smallW _ (List.mem_of_getElem? hy); simp only at hwb; have hnd1 : (fs1.map (·.1)).Nodup := (by rw [hF.ids]; exact hR.ids); have hwl2 := wroteL_len s ax by_; refine K_ent (Ent.pick [5] rfl) ?_; refine K_ent (stock_out fileG hj _) ?_; refine K_drawA (fun w => Sat G w ([pts bw1 (cl [ptr fx, .int .i64 ax, (.slice ba by_.length bc)] 82), pts fx (cl [v1, v2] 70)])) (.st 0 (.st 1 (.st 2 (.st 3 (.st 4 (.st 5 (.st 6 (.st 7 (.st 8 (.st 9 (.st 10 (.act 11 (.st 12 (.st 13 (.act 14 .nil))))))))))))))) rfl (by kernel_rfl) (by kernel_rfl) (by kernel_rfl) (fun w hw => hw.ent (Ent.pickOnly ([2, 0]) rfl)) ?_; (refine go ?_); refine J_call [6] rfl rfl rfl rfl (wrote_any (arrS 5 arrs1) v2 _ s by_ ax (hb2'.view _) (hb'.view _) (by omega)) rfl (fun _ _ w hp hw => by obtain ⟨_, _, _, _, rfl⟩ := hp; exact hw.ent (Ent.pickOnly [4, 2] rfl)) ?_; rintro _ _ ⟨bl, cap2, rfl, hcap2, rfl⟩; (refine go ?_); refine K_ent (Ent.pick [2, 3] rfl) ?_; refine K_ent (stock_set fileG (y := (fx, v1, .slice (some ⟨bl, 0, none⟩) (wroteL s ax by_).length cap2)) hj _) ?_; refine K_ent (Ent.pick [1, 2] rfl) ?_; refine K_ent (arrS_add 5 bl _ arrs1 _) ?_; have hF2 := hF.put (arrs' := (bl, bV (wroteL s ax by_)) :: arrs1) (v1 := v1) (v2 := .slice (some ⟨bl, 0, none⟩) (wroteL s ax by_).length cap2) (n := n) (s := wroteL s ax by_) (fun x h => List.mem_cons_of_mem _ h) hfj (hb1'.mono fun x h => List.mem_cons_of_mem _ h) (BIn.row hcap2) ⟨hnl, by omega⟩; refine K_again ih (i + 1, _, _, _) rfl ⟨hi', hF2, by rw [← hL]; exact (lasts_some hy hnd1 hfj hk).symm⟩ (by show _ - (_ + 1) < _; omega) (by repeat (first | exact keep_nil | refine keep_cons rfl ?_)) (Ent.to [3, 4, 5, 0, 1, 6, 7] 1 rfl rfl rfl)))
  · intro hge
    simp only at hge
    have hiw : i = wl.length := by omega
    subst hiw
    have hfs1 : fs1 = Ab.lasts stay torn cut 0 A.writes A.fs := by rw [← hL, List.drop_of_length_le (by omega)]; rfl
    obtain ⟨nm, hnm, hbm⟩ := hR.states.left hb1
    have hall : All2 (fun b es => (b, ptrs es) ∈ maps) (stb ++ [b1]) (A.states ++ [nm]) := All2.snoc hR.states hbm
    refine K_drawA (fun w => Sat G w ([pts bd (cl [.int .i64 room, .map (some b1), .slice (some ⟨bs, os, none⟩) stb.length cs, .slice wa wl.length wc, pln, .bool off] 56)])) (.st 0 (.st 1 (.st 2 (.st 3 (.st 4 (.st 5 (.st 6 (.st 7 (.st 11 (.act 8 (.act 9 (.st 10 .nil)))))))))))) rfl (by kernel_rfl) (by kernel_rfl) (by kernel_rfl) (fun w hw => hw.ent (Ent.pickOnly ([1]) rfl)) ?_
    (refine go ?_)
    refine J_buildSlice1 (U := tab) rfl rfl rfl rfl rfl rfl rfl rfl rfl (fun _ w hw => hw.ent (Ent.pickOnly ([2]) rfl)) ?_
    intro b0
    refine J_append (U := tab) (mm := 1) (news := [.map (some b1)]) 6 0 rfl rfl rfl rfl rfl rfl rfl rfl rfl rfl rfl rfl (Vw.pts rfl) rfl (by simp [Value.oneCell']) (by omega) (by show _ * 8 ≤ _; omega) (fun _ => rfl) (fun _ w hw => hw.ent (Ent.pickOnly ([2]) rfl)) ?_
    intro v'
    have e1 : (stb.map fun b => Value.map (some b)) ++ [.map (some b1)] = (stb ++ [b1]).map fun b => Value.map (some b) := by simp
    have e2 : stb.length + 1 = (stb ++ [b1]).length := by simp
    have e3 : (stb ++ [b1]).length ≤ 1000000001 := by rw [← e2]; omega
    rw [e1, e2]
    refine J_shape 6 rfl ?_
    rintro av cv rfl
    (refine go ?_)
    refine K_loop (fun s : Nat × List (Nat × Value × Value) × List Nat => s.1 ≤ (stb ++ [b1]).length ∧ FilesAre arrs arrs1 s.2.1 (mark s.2.2 fs1) (A.fs.map (·.1)) ∧ ∀ x, x ∈ s.2.2 ↔ x ∈ Ab.reach ((A.states ++ [nm]).take s.1)) (fun s => (stb ++ [b1]).length - s.1)
      (fun s => [(0, ptr bd), (104, .slice av (stb ++ [b1]).length cv), (105, .int .i64 (stb ++ [b1]).length), (106, .int .i64 s.1)])
      (fun s => slc 52 1 (.slice av (stb ++ [b1]).length cv) (stb ++ [b1]).length ((stb ++ [b1]).map fun b => .map (some b)) :: pts bd (cl [.int .i64 room, .map (some b1), .slice (some ⟨bs, os, none⟩) stb.length cs, .slice wa wl.length wc, pln, .bool off] 56) :: stock mapG maps :: arrS 5 arrs1 :: stock fileG s.2.1 :: X :: F)
      (0, files1, []) ⟨Nat.zero_le _, by rw [mark_nil]; exact hF, by simp [Ab.reach]⟩ rfl (by repeat (first | exact keep_nil | refine keep_cons rfl ?_)) (Ent.to [6, 2, 3, 4, 5, 7] 2 rfl rfl rfl) ?_
    rintro ⟨i, files2, S⟩ ⟨hi2, hF2, hS2⟩ ih2
    simp only at hi2 hF2 hS2
    (refine go ?_)
    refine K_condP rfl rfl ?_ ?_
    · intro hlt
      simp only at hlt
      have hlt' : i < (stb ++ [b1]).length := by omega
      obtain ⟨bi, hbi⟩ : ∃ x, (stb ++ [b1])[i]? = some x := ⟨(stb ++ [b1])[i], by rw [List.getElem?_eq_getElem]⟩
      obtain ⟨es, hes, hm⟩ := hall.left hbi
      have hesm : es ∈ A.names :: A.states := by
        rcases List.mem_append.1 (List.mem_of_getElem? hes) with h | h
        · exact List.mem_cons_of_mem _ h
        · simp only [List.mem_singleton] at h; subst h; exact List.mem_cons_of_mem _ (List.mem_of_getElem? hnm)
      (refine go ?_)
      refine J_slcAt 0 rfl (by omega) ?_
      rintro bn on cn hs3 hvn
      simp only [Value.slice.injEq, true_and] at hs3
      obtain ⟨rfl, rfl⟩ := hs3
      refine J_at1 (U := tab) i rfl rfl rfl rfl rfl rfl rfl rfl hlt' ?_
      refine J_loadAt (U := tab) 0 i rfl rfl rfl hvn rfl (c := .map (some bi)) (by simp only [List.getElem?_map, hbi, Option.map_some]) rfl rfl ?_
      (refine go ?_)
      obtain ⟨jm, hjm⟩ := List.getElem?_of_mem hm
      refine J_ent (Ent.pick [2] rfl) ?_
      refine J_ent (stock_out mapG hjm _) ?_
      refine J_range (kv := Value.string) (es := ptrs es) (U := tab) 0 rfl rfl rfl rfl rfl (fun _ => rfl) (fun _ _ _ => trivial) ?_
      intro it
      (refine go ?_)
      have hndk := hR.nodup _ hesm
      have hkeys : (ptrs es).map (·.1) = es.map (·.1) := by simp [ptrs, Function.comp_def]
      refine K_loop (fun s : List ByteArray × List (Nat × Value × Value) × List Nat => (s.1.Nodup ∧ ∀ x ∈ s.1, x ∈ es.map (·.1)) ∧ FilesAre arrs arrs1 s.2.1 (mark s.2.2 fs1) (A.fs.map (·.1)) ∧ ∀ x, x ∈ s.2.2 ↔ x ∈ S ∨ ∃ k ∈ s.1, (k, x) ∈ es) (fun s => es.length - s.1.length)
        (fun s => [(111, .pointer (some ⟨it, 0, none⟩)), (0, ptr bd), (104, .slice (some ⟨bn, on, none⟩) (stb ++ [b1]).length cv), (105, .int .i64 (stb ++ [b1]).length), (106, .int .i64 i)])
        (fun s => mapI Value.string bi it (ptrs es) s.1 :: stock mapG (maps.eraseIdx jm) :: slc 52 1 (.slice (some ⟨bn, on, none⟩) (stb ++ [b1]).length cv) (stb ++ [b1]).length ((stb ++ [b1]).map fun b => .map (some b)) :: pts bd (cl [.int .i64 room, .map (some b1), .slice (some ⟨bs, os, none⟩) stb.length cs, .slice wa wl.length wc, pln, .bool off] 56) :: arrS 5 arrs1 :: stock fileG s.2.1 :: X :: F)
        ([], files2, S) ⟨⟨List.nodup_nil, by simp⟩, hF2, by simp⟩ rfl (by repeat (first | exact keep_nil | refine keep_cons rfl ?_)) (Ent.refl _) ?_
      rintro ⟨dn, files3, S3⟩ ⟨⟨hdn, hsubk⟩, hF3, hS3⟩ ih3
      simp only at hdn hsubk hF3 hS3
      (refine go ?_)
      refine J_next (kv := Value.string) (es := ptrs es) 0 rfl kStr.inj rfl rfl (fun _ => rfl) (fun _ _ => trivial) (fun _ _ _ => trivial) ?_ ?_
      · intro hallk
        (refine go ?_)
        refine K_ent ((Ent.head (B := [mapG (bi, ptrs es)]) (fun h hs => by obtain ⟨h', s, hm⟩ := mapI_mapR h hs; exact ⟨h', s, Sep_one' hm⟩)).trans (stock_in mapG hjm _)) ?_
        have hS4 : ∀ x, x ∈ S3 ↔ x ∈ Ab.reach ((A.states ++ [nm]).take (i + 1)) := by
          intro x
          rw [hS3 x, hS2 x, List.take_add_one, hes]
          simp only [Ab.reach, Option.toList_some, List.flatMap_append, List.flatMap_cons, List.flatMap_nil, List.append_nil, List.mem_append]
          apply or_congr Iff.rfl
          constructor
          · rintro ⟨k, _, hk⟩; exact List.mem_map.2 ⟨_, hk, rfl⟩
          · intro hx
            obtain ⟨⟨k, x'⟩, hk, rfl⟩ := List.mem_map.1 hx
            exact ⟨k, hallk (k, ptr x') (List.mem_map.2 ⟨_, hk, rfl⟩), hk⟩
        (refine go ?_)
        have ih := ih2
        refine K_again ih (i + 1, files3, S3) rfl ⟨hlt', hF3, hS4⟩ (by show _ - (_ + 1) < _; omega) (by repeat (first | exact keep_nil | refine keep_cons rfl ?_)) (Ent.to [1, 2, 0, 3, 4, 5] 0 rfl rfl rfl)
      · intro key v hmem hnot
        obtain ⟨⟨k', f⟩, hx, hxe⟩ := List.mem_map.1 hmem
        simp only [Prod.mk.injEq] at hxe
        obtain ⟨rfl, rfl⟩ := hxe
        (refine go ?_)
        refine J_entry (kv := Value.string) (es := ptrs es) 0 rfl kStr.inj rfl rfl hmem ?_
        (refine go ?_)
        obtain ⟨j, v1, v2, n, s, hj, hfj, hb1', hb2', hnl, hsl', hfind⟩ := hF3.get hR.ids (hR.known _ hesm _ hx)
        obtain ⟨a2, c2, rfl, _⟩ := hb2'.shape
        refine J_ent (Ent.pick [5] rfl) ?_
        refine J_ent (stock_out fileG hj _) ?_
        (refine go ?_)
        refine K_ent (stock_set fileG (y := (f, .slice a2 s.length c2, .slice a2 s.length c2)) hj _) ?_
        have hF4 := hF3.put (v1 := .slice a2 s.length c2) (v2 := .slice a2 s.length c2) (n := s) (s := s) (fun _ h => h) hfj hb2' hb2' ⟨hsl', hsl'⟩
        rw [mark_set (by rw [hF.ids]; exact hR.ids) hfj] at hF4
        have hmk : k' ∈ es.map (·.1) := List.mem_map.2 ⟨_, hx, rfl⟩
        have hd2 : (k' :: dn).Nodup := List.nodup_cons.2 ⟨hnot, hdn⟩
        have hs2 : ∀ x ∈ k' :: dn, x ∈ es.map (·.1) := fun x hx => by
          rcases List.mem_cons.1 hx with rfl | h
          · exact hmk
          · exact hsubk x h
        have hlen2 := nodup_len hd2 hs2
        rw [List.length_map, List.length_cons] at hlen2
        have hS4 : ∀ x, x ∈ f :: S3 ↔ x ∈ S ∨ ∃ k ∈ k' :: dn, (k, x) ∈ es := by
          intro x
          rw [List.mem_cons, hS3 x]
          constructor
          · rintro (rfl | h | ⟨k, hk, hkx⟩)
            · exact .inr ⟨k', List.mem_cons_self .., hx⟩
            · exact .inl h
            · exact .inr ⟨k, List.mem_cons_of_mem _ hk, hkx⟩
          · rintro (h | ⟨k, hk, hkx⟩)
            · exact .inr (.inl h)
            · rcases List.mem_cons.1 hk with rfl | hk
              · left
                have h1 := lookIn_mem hndk hx
                rw [lookIn_mem hndk hkx] at h1
                simpa using h1
              · exact .inr (.inr ⟨k, hk, hkx⟩)
        have ih := ih3
        refine K_again ih (k' :: dn, _, f :: S3) rfl ⟨⟨hd2, hs2⟩, hF4, hS4⟩ (by simp only [List.length_cons]; omega) (by repeat (first | exact keep_nil | refine keep_cons rfl ?_)) (Ent.to [1, 2, 3, 4, 5, 0, 6] 0 rfl rfl rfl)
    · intro hge2
      simp only at hge2
      have hie : i = (stb ++ [b1]).length := by omega
      subst hie
      rw [hall.1, List.take_length] at hS2
      rw [mark_ext fs1 hS2, hfs1] at hF2
      (refine go ?_)
      refine J_buildSlice1 (U := tab) rfl rfl rfl rfl rfl rfl rfl rfl rfl (fun _ _ _ => trivial) ?_
      intro b2
      (refine go ?_)
      refine K_ent (slc_row 52 1 b2 1 1 [.map (some b1)] [] _ rfl (Nat.le_refl _) (by simp)) ?_
      refine K_ent (slc_lift 82 3 none _) ?_
      refine K_ent (Ent.pick [3, 4, 5, 6, 1, 0, 7] rfl) ?_
      refine K_ent (disk_c bd room b1 (.slice (some ⟨b2, 0, none⟩) 1 1) (.slice none 0 0) (.slice none 0 0) false maps arrs1 files2 [b1] [] _) ?_
      have hR2 := hR.crashed (b0 := b2) rfl rfl (by rw [← hlen]; exact hq) hnm hbm hF2
      refine K_fallEnd hE Try.func20 rfl _ rfl ⟨_, hR2, rfl⟩ (Ent.fin [0, 1] 1 rfl rfl)
end Go.Proofs.Ytpdmbmnhgcnelaa

/- files, part r: Rename. -/
set_option linter.unusedVariables false
set_option linter.unusedSimpArgs false
namespace Go.Proofs.Ytpdmbmnhgcnelaa
open Go Go.SL
attribute [local irreducible] J K Ctr Ends pts slc mapR mapI sbRow stock arrS

theorem Rename_any (bd : Nat) (D : Dk) (A : Ab) (hR : Rel D A) (old name : ByteArray) (hst : A.states.length ≤ 1000000000) :
    Ctr Try.prog 73 [ptr bd, .string old, .string name] [disk bd D]
      (fun v H => ∃ D', Rel D' (A.rename ([old, name].all isName) old name).2 ∧ H = [disk bd D'] ∧ v = .int .i64 (A.rename ([old, name].all isName) old name).1) := by
  refine Ctr.enter Try.func73 (by kernel_rfl) rfl Try.ntmps73 rfl rfl ?_
  intro G F R hE
  (refine go ?_)
  refine J_box rfl rfl (fun _ _ _ => trivial) ?_
  intro box1
  refine J_box rfl rfl (fun _ _ _ => trivial) ?_
  intro box2
  (refine go ?_)
  cases hfo : (A.find old ([old, name].all isName)).2.1 with
  | none =>
    refine K_drawA (fun w => Sat G w ([pts box2 (cl [.string name] 9), pts box1 (cl [.string old] 9)])) (.st 0 (.st 1 (.st 2 (.st 3 (.fork (.act 4 (.fork (.act 5 (.fork (.act 6 (.st 7 (.st 8 (.st 9 (.act 10 (.act 11 (.st 12 .nil))))))) (.act 10 (.act 6 (.st 7 (.st 8 (.st 9 (.act 11 (.st 12 .nil))))))))) (.act 10 (.act 5 (.act 6 (.st 7 (.st 8 (.st 9 (.act 11 (.st 12 .nil)))))))))) (.act 10 (.act 4 (.act 5 (.act 6 (.st 7 (.st 8 (.st 9 (.act 11 (.st 12 .nil)))))))))))))) rfl (by kernel_rfl) (by kernel_rfl) (by kernel_rfl) (fun w hw => hw.ent (Ent.pickOnly ([0, 1]) rfl)) ?_
    repeat' (first | (with_reducible intro _hh) | refine go1 ?_ | refine J_fork ?_ ?_ | refine J_gsP rfl rfl rfl rfl ?_ ?_ | refine K_condP rfl rfl ?_ ?_ | (refine J_buildSlice1 (U := tab) rfl rfl rfl rfl rfl rfl rfl rfl rfl (fun _ w hw => hw.ent (by first | exact Ent.pickOnly [0, 1] rfl | exact Ent.pickOnly [1, 2] rfl | exact Ent.pickOnly [2, 3] rfl | exact Ent.pickOnly [3, 4] rfl)) ?_; intro _) | (refine J_alloc (U := tab) rfl rfl rfl (fun _ w hw => hw.ent (by first | exact Ent.pickOnly [0, 1] rfl | exact Ent.pickOnly [1, 2] rfl | exact Ent.pickOnly [2, 3] rfl | exact Ent.pickOnly [3, 4] rfl)) ?_; intro _) | (refine J_call [0] rfl rfl rfl rfl (right_any _ _ [old, name] (Vw.pts rfl) (by simp)) rfl (fun _ _ w hp hw => by obtain ⟨_, rfl⟩ := hp; exact (fun _ w hw => hw.ent (by first | exact Ent.pickOnly [0, 1] rfl | exact Ent.pickOnly [1, 2] rfl | exact Ent.pickOnly [2, 3] rfl | exact Ent.pickOnly [3, 4] rfl)) 0 w hw) ?_; rintro _ _ ⟨rfl, rfl⟩) | (refine J_call [1] rfl rfl rfl rfl (right_any _ _ [old, name] (Vw.pts rfl) (by simp)) rfl (fun _ _ w hp hw => by obtain ⟨_, rfl⟩ := hp; exact (fun _ w hw => hw.ent (by first | exact Ent.pickOnly [0, 1] rfl | exact Ent.pickOnly [1, 2] rfl | exact Ent.pickOnly [2, 3] rfl | exact Ent.pickOnly [3, 4] rfl)) 0 w hw) ?_; rintro _ _ ⟨rfl, rfl⟩) | (refine J_call [3] rfl rfl rfl rfl (find_any bd D A hR old ([old, name].all isName)) rfl (fun _ _ w hp hw => by obtain ⟨_, _, rfl, _⟩ := hp; exact (fun _ w hw => hw.ent (by first | exact Ent.pickOnly [0, 1] rfl | exact Ent.pickOnly [1, 2] rfl | exact Ent.pickOnly [2, 3] rfl | exact Ent.pickOnly [3, 4] rfl)) 0 w hw) ?_; rintro _ _ ⟨D', hR', rfl, rfl⟩; rw [hfo]) | (refine J_call [4] rfl rfl rfl rfl (find_any bd D A hR old ([old, name].all isName)) rfl (fun _ _ w hp hw => by obtain ⟨_, _, rfl, _⟩ := hp; exact (fun _ w hw => hw.ent (by first | exact Ent.pickOnly [0, 1] rfl | exact Ent.pickOnly [1, 2] rfl | exact Ent.pickOnly [2, 3] rfl | exact Ent.pickOnly [3, 4] rfl)) 0 w hw) ?_; rintro _ _ ⟨D', hR', rfl, rfl⟩; rw [hfo]) | (refine J_isStore ?_; first | refine J_store (U := tab) 0 (fun w hw => (fun _ w hw => hw.ent (by first | exact Ent.pickOnly [0, 1] rfl | exact Ent.pickOnly [1, 2] rfl | exact Ent.pickOnly [2, 3] rfl | exact Ent.pickOnly [3, 4] rfl)) 0 w hw) rfl rfl rfl rfl rfl rfl rfl rfl rfl ?_ | refine J_store (U := tab) 1 (fun w hw => (fun _ w hw => hw.ent (by first | exact Ent.pickOnly [0, 1] rfl | exact Ent.pickOnly [1, 2] rfl | exact Ent.pickOnly [2, 3] rfl | exact Ent.pickOnly [3, 4] rfl)) 0 w hw) rfl rfl rfl rfl rfl rfl rfl rfl rfl ?_ | refine J_store (U := tab) 2 (fun w hw => (fun _ w hw => hw.ent (by first | exact Ent.pickOnly [0, 1] rfl | exact Ent.pickOnly [1, 2] rfl | exact Ent.pickOnly [2, 3] rfl | exact Ent.pickOnly [3, 4] rfl)) 0 w hw) rfl rfl rfl rfl rfl rfl rfl rfl rfl ?_))
    all_goals (
      have h0' : ¬ (A.find old ([old, name].all isName)).1 = 0 := fun h => by obtain ⟨_, fl, h1, _⟩ := find_parts h; rw [hfo] at h1; cases h1
      have hw : A.rename ([old, name].all isName) old name = ((A.find old ([old, name].all isName)).1, (A.find old ([old, name].all isName)).2.2) := by
        unfold Ab.rename
        generalize A.find old ([old, name].all isName) = z at h0' hfo ⊢
        obtain ⟨e, fo, A1⟩ := z
        simp only at hfo
        subst hfo
        cases e <;> rfl
      rw [hw] at hE
      first
      | (exfalso; omega)
      | refine K_return hE Try.func73 rfl _ rfl ⟨D', hR', rfl, rfl⟩ (Ent.fin [0] 4 rfl rfl)
      | refine K_return hE Try.func73 rfl _ rfl ⟨D', hR', rfl, rfl⟩ (Ent.fin [1] 4 rfl rfl))
  | some fl =>
    refine K_drawA (fun w => Sat G w ([pts box2 (cl [.string name] 9), pts box1 (cl [.string old] 9)])) (.st 0 (.st 1 (.st 2 (.st 3 (.fork (.act 4 (.fork (.act 5 (.fork (.act 6 (.st 7 (.st 8 (.st 9 (.act 10 (.act 11 (.st 12 .nil))))))) (.act 10 (.act 6 (.st 7 (.st 8 (.st 9 (.act 11 (.st 12 .nil))))))))) (.act 10 (.act 5 (.act 6 (.st 7 (.st 8 (.st 9 (.act 11 (.st 12 .nil)))))))))) (.act 10 (.act 4 (.act 5 (.act 6 (.st 7 (.st 8 (.st 9 (.act 11 (.st 12 .nil)))))))))))))) rfl (by kernel_rfl) (by kernel_rfl) (by kernel_rfl) (fun w hw => hw.ent (Ent.pickOnly ([0, 1]) rfl)) ?_
    repeat' (first | (with_reducible intro _hh) | refine go1 ?_ | refine J_fork ?_ ?_ | refine J_gsP rfl rfl rfl rfl ?_ ?_ | refine K_condP rfl rfl ?_ ?_ | (refine J_buildSlice1 (U := tab) rfl rfl rfl rfl rfl rfl rfl rfl rfl (fun _ w hw => hw.ent (by first | exact Ent.pickOnly [0, 1] rfl | exact Ent.pickOnly [1, 2] rfl | exact Ent.pickOnly [2, 3] rfl | exact Ent.pickOnly [3, 4] rfl)) ?_; intro _) | (refine J_alloc (U := tab) rfl rfl rfl (fun _ w hw => hw.ent (by first | exact Ent.pickOnly [0, 1] rfl | exact Ent.pickOnly [1, 2] rfl | exact Ent.pickOnly [2, 3] rfl | exact Ent.pickOnly [3, 4] rfl)) ?_; intro _) | (refine J_call [0] rfl rfl rfl rfl (right_any _ _ [old, name] (Vw.pts rfl) (by simp)) rfl (fun _ _ w hp hw => by obtain ⟨_, rfl⟩ := hp; exact (fun _ w hw => hw.ent (by first | exact Ent.pickOnly [0, 1] rfl | exact Ent.pickOnly [1, 2] rfl | exact Ent.pickOnly [2, 3] rfl | exact Ent.pickOnly [3, 4] rfl)) 0 w hw) ?_; rintro _ _ ⟨rfl, rfl⟩) | (refine J_call [1] rfl rfl rfl rfl (right_any _ _ [old, name] (Vw.pts rfl) (by simp)) rfl (fun _ _ w hp hw => by obtain ⟨_, rfl⟩ := hp; exact (fun _ w hw => hw.ent (by first | exact Ent.pickOnly [0, 1] rfl | exact Ent.pickOnly [1, 2] rfl | exact Ent.pickOnly [2, 3] rfl | exact Ent.pickOnly [3, 4] rfl)) 0 w hw) ?_; rintro _ _ ⟨rfl, rfl⟩) | (refine J_call [3] rfl rfl rfl rfl (find_any bd D A hR old ([old, name].all isName)) rfl (fun _ _ w hp hw => by obtain ⟨_, _, rfl, _⟩ := hp; exact (fun _ w hw => hw.ent (by first | exact Ent.pickOnly [0, 1] rfl | exact Ent.pickOnly [1, 2] rfl | exact Ent.pickOnly [2, 3] rfl | exact Ent.pickOnly [3, 4] rfl)) 0 w hw) ?_; rintro _ _ ⟨D', hR', rfl, rfl⟩; rw [hfo]) | (refine J_call [4] rfl rfl rfl rfl (find_any bd D A hR old ([old, name].all isName)) rfl (fun _ _ w hp hw => by obtain ⟨_, _, rfl, _⟩ := hp; exact (fun _ w hw => hw.ent (by first | exact Ent.pickOnly [0, 1] rfl | exact Ent.pickOnly [1, 2] rfl | exact Ent.pickOnly [2, 3] rfl | exact Ent.pickOnly [3, 4] rfl)) 0 w hw) ?_; rintro _ _ ⟨D', hR', rfl, rfl⟩; rw [hfo]) | (refine J_isStore ?_; first | refine J_store (U := tab) 0 (fun w hw => (fun _ w hw => hw.ent (by first | exact Ent.pickOnly [0, 1] rfl | exact Ent.pickOnly [1, 2] rfl | exact Ent.pickOnly [2, 3] rfl | exact Ent.pickOnly [3, 4] rfl)) 0 w hw) rfl rfl rfl rfl rfl rfl rfl rfl rfl ?_ | refine J_store (U := tab) 1 (fun w hw => (fun _ w hw => hw.ent (by first | exact Ent.pickOnly [0, 1] rfl | exact Ent.pickOnly [1, 2] rfl | exact Ent.pickOnly [2, 3] rfl | exact Ent.pickOnly [3, 4] rfl)) 0 w hw) rfl rfl rfl rfl rfl rfl rfl rfl rfl ?_ | refine J_store (U := tab) 2 (fun w hw => (fun _ w hw => hw.ent (by first | exact Ent.pickOnly [0, 1] rfl | exact Ent.pickOnly [1, 2] rfl | exact Ent.pickOnly [2, 3] rfl | exact Ent.pickOnly [3, 4] rfl)) 0 w hw) rfl rfl rfl rfl rfl rfl rfl rfl rfl ?_))
    all_goals (
      have h0' : (A.find old ([old, name].all isName)).1 = 0 := by
        rcases Nat.eq_zero_or_pos (A.find old ([old, name].all isName)).1 with h | h
        · exact h
        · exfalso
          unfold Ab.find at hfo h
          split at hfo
          · rename_i h1
            rw [if_pos h1] at h
            cases hl : (A.meet ([old, name].all isName)).2.look old with
            | none => rw [hl] at hfo; cases hfo
            | some f => rw [hl] at h; simp at h
          · cases hfo)
    any_goals (exfalso; omega)
    all_goals (
      obtain ⟨_, fl', hfl', hmem⟩ := find_parts h0'
      rw [hfo] at hfl'
      cases hfl'
      have hw : A.rename ([old, name].all isName) old name = (0, (A.find old ([old, name].all isName)).2.2.chg (Ab.setN (Ab.delN (A.find old ([old, name].all isName)).2.2.names old) name fl)) := by
        unfold Ab.rename
        generalize A.find old ([old, name].all isName) = z at h0' hfo ⊢
        obtain ⟨e, fo, A1⟩ := z
        simp only at h0' hfo
        subst h0' hfo
        rfl
      rw [hw] at hE
      have hst' : (A.find old ([old, name].all isName)).2.2.states.length ≤ 1000000000 := by rw [(find_same A old _).2.2.1]; exact hst
      generalize (A.find old ([old, name].all isName)).2.2 = A1 at *
      have hst2 : D'.stb.length ≤ 1000000000 := by rw [hR'.states.1]; exact hst'
      have hN := hR'.smallN _ (List.mem_cons_self ..)
      have hlt := delN_lt hmem
      have hln := setN_len (Ab.delN A1.names old) name fl
      have hchg : ∀ b' v, Rel { D' with bm := b', maps := (b', ptrs (Ab.setN (Ab.delN A1.names old) name fl)) :: D'.maps, sts := v, stb := D'.stb ++ [b'] } (A1.chg (Ab.setN (Ab.delN A1.names old) name fl)) := fun b' v => hR'.chg
        (fun x hx => by
          rcases setN_mem hx with rfl | hx
          · have := hR'.known _ (List.mem_cons_self ..) _ hmem; exact this
          · exact hR'.known _ (List.mem_cons_self ..) _ (delN_sub hx).1)
        (setN_nodup (delN_nodup (hR'.nodup _ (List.mem_cons_self ..)) old) name fl) (by omega)
      first
      | (refine J_ent (Ent.pick ([4, 0, 3, 1]) rfl) ?_; refine J_ent (Ent.resep [_, _, _] _) ?_; refine J_call [1, 0] rfl rfl rfl rfl (change_any (α := Unit) bd D' A1.names hR'.names 93 #[ptr box1, ptr _, ptr box2] _ (fun _ => Ab.setN (Ab.delN A1.names old) name fl) (fun _ => emp) (fun _ => True) (fun b' => Ctr.post (Rename1_any b' box1 _ box2 fl A1.names old name) (fun v H h => ⟨(), trivial, h⟩)) hst2) rfl (fun _ _ _ _ _ => trivial) ?_; rintro _ _ ⟨_, b', v, _, rfl⟩; (refine go ?_); refine K_return hE Try.func73 rfl _ rfl ⟨_, hchg b' v, rfl, rfl⟩ (Ent.fin [0] 2 rfl rfl))
      | (refine J_ent (Ent.pick ([4, 1, 3, 0]) rfl) ?_; refine J_ent (Ent.resep [_, _, _] _) ?_; refine J_call [1, 0] rfl rfl rfl rfl (change_any (α := Unit) bd D' A1.names hR'.names 93 #[ptr box1, ptr _, ptr box2] _ (fun _ => Ab.setN (Ab.delN A1.names old) name fl) (fun _ => emp) (fun _ => True) (fun b' => Ctr.post (Rename1_any b' box1 _ box2 fl A1.names old name) (fun v H h => ⟨(), trivial, h⟩)) hst2) rfl (fun _ _ _ _ _ => trivial) ?_; rintro _ _ ⟨_, b', v, _, rfl⟩; (refine go ?_); refine K_return hE Try.func73 rfl _ rfl ⟨_, hchg b' v, rfl, rfl⟩ (Ent.fin [0] 2 rfl rfl))
      | (refine J_ent (Ent.pick ([4, 2, 3, 0]) rfl) ?_; refine J_ent (Ent.resep [_, _, _] _) ?_; refine J_call [1, 0] rfl rfl rfl rfl (change_any (α := Unit) bd D' A1.names hR'.names 93 #[ptr box1, ptr _, ptr box2] _ (fun _ => Ab.setN (Ab.delN A1.names old) name fl) (fun _ => emp) (fun _ => True) (fun b' => Ctr.post (Rename1_any b' box1 _ box2 fl A1.names old name) (fun v H h => ⟨(), trivial, h⟩)) hst2) rfl (fun _ _ _ _ _ => trivial) ?_; rintro _ _ ⟨_, b', v, _, rfl⟩; (refine go ?_); refine K_return hE Try.func73 rfl _ rfl ⟨_, hchg b' v, rfl, rfl⟩ (Ent.fin [0] 2 rfl rfl)))
end Go.Proofs.Ytpdmbmnhgcnelaa

/- journal, part a: numbers as bytes; Repeat; heads. -/
set_option linter.unusedVariables false
set_option linter.unusedSimpArgs false
namespace Go.Proofs.Ytpdmbmnhgcnelaa
open Go Go.SL
attribute [local irreducible] J K Ctr Ends pts slc mapR mapI sbRow stock arrS loopP

theorem number_any (n : Nat) (h : n < 9223372036854775808) : Ctr Try.prog 87 [.int .i64 (n : Int)] [] (fun v H => ∃ b, v = .slice (some ⟨b, 0, none⟩) 4 4 ∧ H = [pts b (cl (bV (le4 n)) 5)]) := by
  refine Ctr.enter Try.func87 (by kernel_rfl) rfl Try.ntmps87 rfl rfl ?_
  intro G F R hE
  (repeat (first | refine go1 ?_ | refine J_fork ?_ ?_ | refine J_convW (U := tab) rfl rfl rfl rfl rfl rfl ?_ | refine J_shr rfl rfl rfl (by omega) ?_))
  refine J_slot 4 (u8 (UInt8.ofNat n)) rfl (conv_u8 n) ?_
  refine J_slot 7 (u8 (UInt8.ofNat (n / 256))) rfl (by rw [show (n : Int) / 2 ^ (min (Int.toNat 8) IntKind.i64.bits) = ((n / 256 : Nat) : Int) from by show (n : Int) / 256 = _; omega]; exact conv_u8 _) ?_
  refine J_slot 10 (u8 (UInt8.ofNat (n / 65536))) rfl (by rw [show (n : Int) / 2 ^ (min (Int.toNat 16) IntKind.i64.bits) = ((n / 65536 : Nat) : Int) from by show (n : Int) / 65536 = _; omega]; exact conv_u8 _) ?_
  refine J_slot 13 (u8 (UInt8.ofNat (n / 16777216))) rfl (by rw [show (n : Int) / 2 ^ (min (Int.toNat 24) IntKind.i64.bits) = ((n / 16777216 : Nat) : Int) from by show (n : Int) / 16777216 = _; omega]; exact conv_u8 _) ?_
  refine J_buildSlice1 (U := tab) (cs := bV (le4 n)) rfl rfl rfl rfl rfl rfl rfl rfl rfl (fun _ _ _ => trivial) ?_
  intro b
  (refine go ?_)
  (first | refine K_return hE Try.func87 rfl _ rfl ⟨b, rfl, rfl⟩ entA | refine K_fallEnd hE Try.func87 rfl _ rfl ⟨b, rfl, rfl⟩ entA)
theorem bV_at {A : HP} {v : Value} {bs : List UInt8} (hv : Vw A v bs.length (bV bs)) (h : 0 < bs.length) : ∃ b o c, v = .slice (some ⟨b, o, none⟩) bs.length c := hv.some (by cases bs with
  | nil => simp at h
  | cons x l => simp [bV])
theorem bV_getD {bs : List UInt8} {i : Nat} (h : i < bs.length) : (bV bs)[i]? = some (u8 (bs.getD i 0)) := by
  rw [List.getD_eq_getElem?_getD]
  simp [bV, h]
theorem shl_slot {x q : Nat} (y : Nat) (h : x * 2 ^ (min q 64) = y) (hy : y < 9223372036854775808) : Value.int .i64 (IntKind.i64.wrap ((x : Int) * 2 ^ (min ((q : Int).toNat) IntKind.i64.bits))) = .int .i64 (y : Int) := by
  have e : (x : Int) * 2 ^ (min ((q : Int).toNat) IntKind.i64.bits) = (y : Int) := by
    show (x : Int) * 2 ^ (min q 64) = _
    rw [← h]; push_cast; rfl
  rw [e, wrap_in (by simp only [inK]; omega)]
set_option maxRecDepth 20000 in
theorem told_any (A : HP) (v : Value) (bs : List UInt8) (hv : Vw A v bs.length (bV bs)) (h : 4 ≤ bs.length) : Ctr Try.prog 64 [v] [A] (fun r H => r = .int .i64 (leN bs : Int) ∧ H = [A]) := by
  obtain ⟨b, o, c, rfl⟩ := bV_at hv (by omega)
  have hx : ∀ x : UInt8, x.toNat < 256 := fun x => x.toNat_lt
  have h0 := hx (bs.getD 0 0); have h1 := hx (bs.getD 1 0); have h2 := hx (bs.getD 2 0); have h3 := hx (bs.getD 3 0)
  refine Ctr.enter Try.func64 (by kernel_rfl) rfl Try.ntmps64 rfl rfl ?_
  intro G F R hE
  (refine go ?_)
  refine K_drawA (fun w => Sat G w ([A])) (sts 0 23 .nil) rfl (by kernel_rfl) (by kernel_rfl) (by kernel_rfl) (fun w hw => hw.ent entA) ?_
  (refine go ?_)
  refine J_at1 (U := tab) 0 rfl rfl rfl rfl rfl rfl rfl rfl (by omega) ?_
  refine J_loadAtS (U := tab) 0 0 rfl rfl rfl hv rfl (bV_getD (by omega)) rfl rfl ?_
  (refine go ?_)
  refine J_at1 (U := tab) 1 rfl rfl rfl rfl rfl rfl rfl rfl (by omega) ?_
  refine J_loadAtS (U := tab) 0 1 rfl rfl rfl hv rfl (bV_getD (by omega)) rfl rfl ?_
  (refine go ?_)
  refine J_shlW rfl rfl rfl (by omega) ?_
  refine J_slot 11 (.int .i64 (((bs.getD 1 0).toNat * 2 ^ 8 : Nat) : Int)) rfl (shl_slot (q := 8) _ rfl (by omega)) ?_
  (refine go ?_)
  refine J_slot 12 (.int .i64 (((bs.getD 0 0).toNat + (bs.getD 1 0).toNat * 2 ^ 8 : Nat) : Int)) rfl (congrArg (Value.int .i64) (or_i64 (by omega) (by omega))) ?_
  refine J_at1 (U := tab) 2 rfl rfl rfl rfl rfl rfl rfl rfl (by omega) ?_
  refine J_loadAtS (U := tab) 0 2 rfl rfl rfl hv rfl (bV_getD (by omega)) rfl rfl ?_
  (refine go ?_)
  refine J_shlW rfl rfl rfl (by omega) ?_
  refine J_slot 17 (.int .i64 (((bs.getD 2 0).toNat * 2 ^ 16 : Nat) : Int)) rfl (shl_slot (q := 16) _ rfl (by omega)) ?_
  (refine go ?_)
  refine J_slot 18 (.int .i64 (((bs.getD 0 0).toNat + (bs.getD 1 0).toNat * 2 ^ 8 + (bs.getD 2 0).toNat * 2 ^ 16 : Nat) : Int)) rfl (congrArg (Value.int .i64) (or_i64 (by omega) (by omega))) ?_
  refine J_at1 (U := tab) 3 rfl rfl rfl rfl rfl rfl rfl rfl (by omega) ?_
  refine J_loadAtS (U := tab) 0 3 rfl rfl rfl hv rfl (bV_getD (by omega)) rfl rfl ?_
  (refine go ?_)
  refine J_shlW rfl rfl rfl (by omega) ?_
  refine J_slot 23 (.int .i64 (((bs.getD 3 0).toNat * 2 ^ 24 : Nat) : Int)) rfl (shl_slot (q := 24) _ rfl (by omega)) ?_
  (refine go ?_)
  refine K_slot 2 (.int .i64 (leN bs : Int)) rfl (congrArg (Value.int .i64) (or_i64 (by omega) (by omega))) ?_
  (first | refine K_return hE Try.func64 rfl _ rfl ⟨rfl, rfl⟩ entA | refine K_fallEnd hE Try.func64 rfl _ rfl ⟨rfl, rfl⟩ entA)
theorem Equal_any (A B : HP) (v1 v2 : Value) (b1 b2 : List UInt8) (h1 : Vw A v1 b1.length (bV b1)) (h2 : Vw B v2 b2.length (bV b2)) : Ctr Try.prog 65 [v1, v2] [A, B] (fun r H => r = .bool (decide (b1 = b2)) ∧ H = [A, B]) := by
  obtain ⟨a1, c1, rfl⟩ := h1.shape
  obtain ⟨a2, c2, rfl⟩ := h2.shape
  refine Ctr.enter Try.func65 (by kernel_rfl) rfl Try.ntmps65 rfl rfl ?_
  intro G F R hE
  (refine go ?_)
  refine J_toStr (U := tab) 0 rfl rfl rfl rfl rfl rfl rfl rfl rfl h1 ?_
  (refine go ?_)
  refine J_toStr (U := tab) 1 rfl rfl rfl rfl rfl rfl rfl rfl rfl h2 ?_
  (refine go ?_)
  rw [eqS_strOf]
  (first | refine K_return hE Try.func65 rfl _ rfl ⟨rfl, rfl⟩ entA | refine K_fallEnd hE Try.func65 rfl _ rfl ⟨rfl, rfl⟩ entA)
set_option maxRecDepth 20000 in
theorem Mul64_any (a b : Nat) (ha : a < 4294967296) (hb : b < 4294967296) : Ctr Try.prog 102 [.int .u64 (a : Int), .int .u64 (b : Int)] [] (fun r H => r = .tuple #[.int .u64 0, .int .u64 ((a * b : Nat) : Int)] ∧ H = []) := by
  have hab : a * b < 18446744073709551616 := Nat.lt_of_lt_of_le (Nat.mul_lt_mul'' ha hb) (by omega)
  have hw : ∀ x : Nat, x < 18446744073709551616 → IntKind.u64.wrap (x : Int) = (x : Int) := fun x hx => wrap_in (by simp only [inK]; omega)
  have hm : ∀ x : Nat, x < 4294967296 → IntKind.u64.wrap ((BitVec.ofInt IntKind.u64.bits (x : Int) &&& BitVec.ofInt IntKind.u64.bits 4294967295).toNat : Int) = (x : Int) := fun x hx => by
    have := and_mask_u64 x 32 (by omega) (by omega)
    rw [show ((2 ^ 32 - 1 : Nat) : Int) = 4294967295 from rfl, show x % 2 ^ 32 = x from by omega] at this
    exact this
  have hs : ∀ x : Nat, x < 4294967296 → (x : Int) / 2 ^ (min (Int.toNat 32) IntKind.u64.bits) = 0 := fun x hx => by show (x : Int) / 4294967296 = 0; omega
  refine Ctr.enter Try.func102 (by kernel_rfl) rfl Try.ntmps102 rfl rfl ?_
  intro G F R hE
  (refine go ?_)
  refine J_slot 6 (.int .u64 (a : Int)) rfl (congrArg (Value.int .u64) (hm a ha)) ?_
  refine J_shr rfl rfl rfl (by omega) ?_
  refine J_slot 17 (.int .u64 0) rfl (congrArg (Value.int .u64) (hs a ha)) ?_
  (refine go ?_)
  refine J_slot 8 (.int .u64 (b : Int)) rfl (congrArg (Value.int .u64) (hm b hb)) ?_
  refine J_shr rfl rfl rfl (by omega) ?_
  refine J_slot 21 (.int .u64 0) rfl (congrArg (Value.int .u64) (hs b hb)) ?_
  (refine go ?_)
  refine J_mul rfl rfl rfl (by rw [← Int.natCast_mul]; simp only [inK]; omega) ?_
  refine J_slot 24 (.int .u64 ((a * b : Nat) : Int)) rfl (by rw [Int.natCast_mul]) ?_
  (refine go ?_)
  refine J_mul rfl rfl rfl (by simp [inK]) ?_
  refine J_slot 27 (.int .u64 0) rfl (by simp) ?_
  (refine go ?_)
  refine J_shr rfl rfl rfl (by omega) ?_
  refine J_slot 29 (.int .u64 ((a * b / 4294967296 : Nat) : Int)) rfl (congrArg (Value.int .u64) (by show ((a * b : Nat) : Int) / 4294967296 = _; omega)) ?_
  (refine go ?_)
  refine J_slot 11 (.int .u64 ((a * b / 4294967296 : Nat) : Int)) rfl (congrArg (Value.int .u64) (by omega)) ?_
  (refine go ?_)
  have hq : a * b / 4294967296 < 4294967296 := by omega
  refine J_slot 12 (.int .u64 ((a * b / 4294967296 : Nat) : Int)) rfl (congrArg (Value.int .u64) (by rw [show (0 : Int) + ((a * b / 4294967296 : Nat) : Int) = ((a * b / 4294967296 : Nat) : Int) from by omega]; exact hm _ hq)) ?_
  refine J_shr rfl rfl rfl (by omega) ?_
  refine J_slot 34 (.int .u64 0) rfl (congrArg (Value.int .u64) (by simp only [Int.zero_add, Int.add_zero]; exact hs _ hq)) ?_
  (refine go ?_)
  refine J_mul rfl rfl rfl (by simp [inK]) ?_
  refine J_slot 38 (.int .u64 0) rfl (by simp) ?_
  (refine go ?_)
  refine J_mul rfl rfl rfl (by simp [inK]) ?_
  refine J_slot 42 (.int .u64 0) rfl (by simp) ?_
  (refine go ?_)
  refine J_shr rfl rfl rfl (by omega) ?_
  refine J_slot 46 (.int .u64 0) rfl (congrArg (Value.int .u64) (by rw [show ((a * b / 4294967296 : Nat) : Int) + 0 = ((a * b / 4294967296 : Nat) : Int) from by omega]; exact hs (a * b / 4294967296) hq)) ?_
  (refine go ?_)
  refine J_mul rfl rfl rfl (by rw [← Int.natCast_mul]; simp only [inK]; omega) ?_
  refine J_slot 50 (.int .u64 ((a * b : Nat) : Int)) rfl (by rw [Int.natCast_mul]) ?_
  (refine go ?_)
  (first | refine K_return hE Try.func102 rfl _ rfl ⟨rfl, rfl⟩ entA | refine K_fallEnd hE Try.func102 rfl _ rfl ⟨rfl, rfl⟩ entA)
theorem Mul_any (a b : Nat) (ha : a < 4294967296) (hb : b < 4294967296) : Ctr Try.prog 97 [.int .u64 (a : Int), .int .u64 (b : Int)] [] (fun r H => r = .tuple #[.int .u64 0, .int .u64 ((a * b : Nat) : Int)] ∧ H = []) := by
  refine Ctr.enter Try.func97 (by kernel_rfl) rfl Try.ntmps97 rfl rfl ?_
  intro G F R hE
  (refine go ?_)
  (first | refine J_callE rfl rfl rfl rfl (Mul64_any a b ha hb) entA ?_ (fun _ _ _ _ _ => trivial) | refine J_call0E rfl rfl rfl (Mul64_any a b ha hb) entA ?_ (fun _ _ _ _ _ => trivial) | (refine go ?_; first | refine J_callE rfl rfl rfl rfl (Mul64_any a b ha hb) entA ?_ (fun _ _ _ _ _ => trivial) | refine J_call0E rfl rfl rfl (Mul64_any a b ha hb) entA ?_ (fun _ _ _ _ _ => trivial)))
  rintro _ _ ⟨rfl, rfl⟩
  (refine go ?_)
  (first | refine K_return hE Try.func97 rfl _ rfl ⟨rfl, rfl⟩ entA | refine K_fallEnd hE Try.func97 rfl _ rfl ⟨rfl, rfl⟩ entA)
set_option maxRecDepth 20000 in
theorem Repeat2_any (v : Value) (bs : List UInt8) (h0 : 0 < bs.length) (hl : bs.length ≤ 1000) :
    Ctr Try.prog 86 [v, .int .i64 2] [slc 5 1 v bs.length (bV bs)] (fun r H => H = [slc 5 1 r (bs ++ bs).length (bV (bs ++ bs))]) := by
  refine Ctr.enter Try.func86 (by kernel_rfl) rfl Try.ntmps86 rfl rfl ?_
  intro G F R hE
  refine K_slcF 0 rfl h0 ?_
  rintro b o c rfl hc _ hvw
  (refine go ?_)
  (first | refine J_callE rfl rfl rfl rfl (Mul_any bs.length 2 (by omega) (by omega)) entA ?_ (fun _ _ _ _ _ => trivial) | refine J_call0E rfl rfl rfl (Mul_any bs.length 2 (by omega) (by omega)) entA ?_ (fun _ _ _ _ _ => trivial) | (refine go ?_; first | refine J_callE rfl rfl rfl rfl (Mul_any bs.length 2 (by omega) (by omega)) entA ?_ (fun _ _ _ _ _ => trivial) | refine J_call0E rfl rfl rfl (Mul_any bs.length 2 (by omega) (by omega)) entA ?_ (fun _ _ _ _ _ => trivial)))
  rintro _ _ ⟨rfl, rfl⟩
  repeat' (first | (with_reducible intro _hh) | refine go1 ?_ | refine J_fork ?_ ?_ | refine J_gsP rfl rfl rfl rfl ?_ ?_ | refine K_condP rfl rfl ?_ ?_)
  any_goals (exfalso; omega)
  obtain ⟨N, hN⟩ : ∃ N, N = bs.length * 2 := ⟨_, rfl⟩
  rw [← hN]
  refine J_makeNoZero (U := tab) (t := 22) (elem := 5) (q := N) rfl Try.func98 rfl rfl (by kernel_rfl) rfl rfl rfl rfl (by omega) (fun _ _ _ _ => trivial) ?_
  intro nb c2 l hc2 hl2
  (refine go ?_)
  refine J_slice3n (U := tab) (q := (N : Int)) (r := (N : Int)) rfl rfl rfl rfl rfl rfl rfl (by omega) (by omega) (by omega) ?_
  refine J_slot 57 (.slice (some ⟨nb, 0, none⟩) N N) rfl (by rw [show ((N : Int)).toNat = N from by omega]; rw [sliceAt_zero]) ?_
  (refine go ?_)
  refine J_copyT (U := tab) (src := bV bs) (mm := bs.length) (l' := bV bs ++ l.drop bs.length) 0 1 rfl rfl rfl rfl rfl rfl rfl rfl hvw (by show _ = _ * 1; rw [bV_length]; omega) (fun u hu => bV_one bs u (List.mem_of_mem_take hu)) (by show 0 + _ * 1 ≤ _; omega) ?_ rfl (fun _ _ => trivial) ?_
  · show _ = List.take 0 l ++ List.take (min bs.length N * 1) (bV bs) ++ List.drop (0 + min bs.length N * 1) l
    rw [show min bs.length N * 1 = bs.length from by omega, List.take_of_length_le (l := bV bs) (by rw [bV_length]; omega)]
    simp
  rw [show ((min bs.length N : Nat) : Int) = (bs.length : Int) from by omega]
  (refine go ?_)
  refine K_loop (fun _ : Bool => True) (fun s => bif s then 0 else 1)
    (fun s => [(7, .int .i64 (N : Int)), (8, .int .i64 (N : Int)), (9, .slice (some ⟨nb, 0, none⟩) N N), (10, .int .i64 ((bif s then N else bs.length : Nat) : Int))])
    (fun s => pts nb (cl (bif s then bV (bs ++ bs) ++ l.drop N else bV bs ++ l.drop bs.length) 5) :: F) false trivial rfl (by repeat (first | exact keep_nil | refine keep_cons rfl ?_)) entA ?_
  rintro s _ ih
  cases s with
  | true =>
    repeat' (first | (with_reducible intro _hh) | refine go1 ?_ | refine J_fork ?_ ?_ | refine J_gsP rfl rfl rfl rfl ?_ ?_ | refine K_condP rfl rfl ?_ ?_)
    any_goals (exfalso; simp only [cond_true] at *; omega)
    simp only [cond_true]
    refine K_ent (slc_row 5 1 nb N N (bV (bs ++ bs)) (l.drop N) _ (by rw [bV_length, List.length_append]; omega) (Nat.le_refl _) (by rw [bV_length, List.length_append, List.length_drop]; omega)) ?_
    rw [show N = (bs ++ bs).length from by rw [List.length_append]; omega]
    (first | refine K_return hE Try.func86 rfl _ rfl rfl entA | refine K_fallEnd hE Try.func86 rfl _ rfl rfl entA)
  | false =>
    repeat' (first | (with_reducible intro _hh) | refine go1 ?_ | refine J_fork ?_ ?_ | refine J_gsP rfl rfl rfl rfl ?_ ?_ | refine K_condP rfl rfl ?_ ?_)
    any_goals (exfalso; simp only [cond_false] at *; omega)
    simp only [cond_false]
    rw [show min (bs.length : Int) (N : Int) = (bs.length : Int) from by omega]
    refine K_drawA (fun w => Sat G w ([])) (sts 0 7 (.act 7 (sts 8 2 .nil))) rfl (by kernel_rfl) (by kernel_rfl) (by kernel_rfl) (fun w hw => hw.ent entA) ?_
    (refine go ?_)
    refine J_sliceAny (U := tab) (p := (bs.length : Int)) (q := (N : Int)) rfl rfl rfl rfl rfl rfl rfl (by omega) (by omega) (.inl rfl) ?_
    refine J_slot 70 (.slice (some ⟨nb, bs.length, none⟩) bs.length bs.length) rfl (by rw [show ((N : Int)).toNat = N from by omega, show ((bs.length : Int)).toNat = bs.length from by omega, show N - bs.length = bs.length from by omega]; show Value.slice (sliceAt _ N bs.length 1) _ _ = _; rw [sliceAt_some _ _ _ _ _ (by omega), Nat.zero_add, Nat.mul_one]) ?_
    (refine go ?_)
    refine J_sliceAny (U := tab) (p := 0) (q := (bs.length : Int)) rfl rfl rfl rfl rfl rfl rfl (by omega) (by omega) (.inr (by omega)) ?_
    refine J_slot 73 (.slice (some ⟨nb, 0, none⟩) bs.length N) rfl (by rw [show (0 : Int).toNat = 0 from rfl, show ((bs.length : Int)).toNat = bs.length from by omega, sliceAt_zero]; rfl) ?_
    refine J_copyT (U := tab) (src := bV bs) (mm := bs.length) (l' := bV (bs ++ bs) ++ l.drop N) 0 0 rfl rfl rfl rfl rfl rfl rfl rfl (Vw.pts (by simp)) (by show _ = _ * 1; rw [bV_length]; omega) (fun u hu => bV_one bs u (List.mem_of_mem_take hu)) (by show bs.length + _ * 1 ≤ _; rw [List.length_append, bV_length, List.length_drop]; omega) ?_ rfl (fun _ hw => hw.ent (Ent.toNil _)) ?_
    · show _ = List.take bs.length _ ++ List.take (min bs.length bs.length * 1) (bV bs) ++ List.drop (bs.length + min bs.length bs.length * 1) _
      rw [show min bs.length bs.length * 1 = bs.length from by omega, List.take_of_length_le (l := bV bs) (by rw [bV_length]; omega), List.take_left' (bV_length bs), List.drop_append, bV_length, show (bV bs).drop (bs.length + bs.length) = [] from List.drop_eq_nil_of_le (by rw [bV_length]; omega), List.drop_drop, show bs.length + (bs.length + bs.length - bs.length) = N from by omega]
      simp [bV]
    rw [show ((min bs.length bs.length : Nat) : Int) = (bs.length : Int) from by omega]
    (refine go ?_)
    refine K_slot 10 (.int .i64 (N : Int)) rfl (congrArg (Value.int .i64) (by omega)) ?_
    refine K_again ih true rfl trivial (by simp) (by repeat (first | exact keep_nil | refine keep_cons rfl ?_)) entA
/-- A head: of a number and of a length, twice. -/
def headL (n m : Nat) : List UInt8 := (le4 n ++ le4 m) ++ (le4 n ++ le4 m)
theorem headL_len (n m : Nat) : (headL n m).length = 16 := rfl
theorem head_any (n m : Nat) (h : n < 9223372036854775808) (h2 : m < 9223372036854775808) : Ctr Try.prog 56 [.int .i64 (n : Int), .int .i64 (m : Int)] [] (fun r H => H = [slc 5 1 r (headL n m).length (bV (headL n m))]) := by
  refine Ctr.enter Try.func56 (by kernel_rfl) rfl Try.ntmps56 rfl rfl ?_
  intro G F R hE
  (refine go ?_)
  (first | refine J_callE rfl rfl rfl rfl (number_any n h) entA ?_ (fun _ _ _ _ _ => trivial) | refine J_call0E rfl rfl rfl (number_any n h) entA ?_ (fun _ _ _ _ _ => trivial) | (refine go ?_; first | refine J_callE rfl rfl rfl rfl (number_any n h) entA ?_ (fun _ _ _ _ _ => trivial) | refine J_call0E rfl rfl rfl (number_any n h) entA ?_ (fun _ _ _ _ _ => trivial)))
  rintro _ _ ⟨b1, rfl, rfl⟩
  (refine go ?_)
  (first | refine J_callE rfl rfl rfl rfl (number_any m h2) entA ?_ (fun _ _ _ _ _ => trivial) | refine J_call0E rfl rfl rfl (number_any m h2) entA ?_ (fun _ _ _ _ _ => trivial) | (refine go ?_; first | refine J_callE rfl rfl rfl rfl (number_any m h2) entA ?_ (fun _ _ _ _ _ => trivial) | refine J_call0E rfl rfl rfl (number_any m h2) entA ?_ (fun _ _ _ _ _ => trivial)))
  rintro _ _ ⟨b2, rfl, rfl⟩
  (first | refine K_ent (Ent.pick [1] rfl) ?_ | refine J_ent (Ent.pick [1] rfl) ?_)
  (first | refine K_ent (slc_row 5 1 b1 4 4 (bV (le4 n)) [] _ rfl (Nat.le_refl _) (by simp [bV_length, le4_len])) ?_ | refine J_ent (slc_row 5 1 b1 4 4 (bV (le4 n)) [] _ rfl (Nat.le_refl _) (by simp [bV_length, le4_len])) ?_)
  refine J_append (U := tab) (mm := 4) (news := bV (le4 m)) 0 1 rfl rfl rfl rfl rfl rfl rfl rfl rfl rfl rfl rfl (Vw.pts rfl) rfl (bV_one _) (by omega) (by show (4 + 4) * 1 ≤ _; omega) (fun _ => rfl) (fun _ _ _ => trivial) ?_
  intro v1
  rw [show bV (le4 n) ++ bV (le4 m) = bV (le4 n ++ le4 m) from by simp [bV], show 4 + 4 = (le4 n ++ le4 m).length from rfl]
  (first | refine J_callE rfl rfl rfl rfl (Repeat2_any v1 (le4 n ++ le4 m) (by simp [le4_len]) (by simp [le4_len])) entA ?_ (fun _ _ _ _ _ => trivial) | refine J_call0E rfl rfl rfl (Repeat2_any v1 (le4 n ++ le4 m) (by simp [le4_len]) (by simp [le4_len])) entA ?_ (fun _ _ _ _ _ => trivial) | (refine go ?_; first | refine J_callE rfl rfl rfl rfl (Repeat2_any v1 (le4 n ++ le4 m) (by simp [le4_len]) (by simp [le4_len])) entA ?_ (fun _ _ _ _ _ => trivial) | refine J_call0E rfl rfl rfl (Repeat2_any v1 (le4 n ++ le4 m) (by simp [le4_len]) (by simp [le4_len])) entA ?_ (fun _ _ _ _ _ => trivial)))
  rintro r _ rfl
  (refine go ?_)
  (first | refine K_return hE Try.func56 rfl _ rfl rfl entA | refine K_fallEnd hE Try.func56 rfl _ rfl rfl entA)
end Go.Proofs.Ytpdmbmnhgcnelaa

/- journal, plain: numbers in groups of seven bits. Nothing here names a program. -/
set_option linter.unusedVariables false
set_option linter.unusedSimpArgs false
namespace Go.SL
/-- A number in groups of seven bits, the least first. -/
def uv (n : Nat) : List UInt8 := if n < 128 then [UInt8.ofNat n] else UInt8.ofNat (n % 128 + 128) :: uv (n / 128)
termination_by n
decreasing_by omega
theorem uv_small {n : Nat} (h : n < 128) : uv n = [UInt8.ofNat n] := by rw [uv, if_pos h]
theorem uv_big {n : Nat} (h : ¬ n < 128) : uv n = UInt8.ofNat (n % 128 + 128) :: uv (n / 128) := by rw [uv, if_neg h]
theorem uv_len : ∀ (k n : Nat), n < 128 ^ (k + 1) → (uv n).length ≤ k + 1
  | 0, n, h => by rw [uv_small (by simpa using h)]; simp
  | k + 1, n, h => by
    by_cases hn : n < 128
    · rw [uv_small hn]; simp
    · rw [uv_big hn, List.length_cons]
      have := uv_len k (n / 128) (Nat.div_lt_of_lt_mul (by rw [Nat.pow_succ, Nat.mul_comm] at h; exact h))
      omega
theorem uv_len10 {n : Nat} (h : n < 18446744073709551616) : (uv n).length ≤ 10 := uv_len 9 n (Nat.lt_of_lt_of_le h (by decide))
theorem uv_pos (n : Nat) : 0 < (uv n).length := by
  by_cases h : n < 128
  · rw [uv_small h]; simp
  · rw [uv_big h]; simp
theorem conv8 (m : Nat) : Value.int .u8 (IntKind.u8.wrap (m : Int)) = .int .u8 ((m % 256 : Nat) : Int) := by
  have h : IntKind.u8.wrap (m : Int) = (m : Int) % 256 := by simp [IntKind.wrap, IntKind.bits, IntKind.signed]
  rw [h]; congr 1
theorem more_u8 (m : Nat) : Value.int .u8 (IntKind.u8.wrap ((BitVec.ofInt IntKind.u8.bits ((m % 256 : Nat) : Int) ||| BitVec.ofInt IntKind.u8.bits 128).toNat : Int)) = u8 (UInt8.ofNat (m % 128 + 128)) := by
  rw [or128_u8 _ (by omega)]
  simp only [u8, UInt8.toNat_ofNat']
  congr 1
  omega
/-- What bytes begin with: a number, what is behind, whether it is as short as may be. -/
def cutL : Nat → Nat → List UInt8 → Option (Nat × List UInt8 × Bool)
  | _, _, [] => none
  | i, acc, c :: r => if i = 10 ∨ (i = 9 ∧ 1 < c.toNat) then none else if c.toNat < 128 then some (acc + c.toNat * 2 ^ (7 * i), r, decide (i = 0 ∨ 0 < c.toNat)) else cutL (i + 1) (acc + (c.toNat % 128) * 2 ^ (7 * i)) r
def cutA (bs : List UInt8) : Nat × List UInt8 × Bool := (cutL 0 0 bs).getD (0, [], false)
def toUintA (bs : List UInt8) : Option Nat := if (cutA bs).2.2 = true ∧ (cutA bs).2.1 = [] then some (cutA bs).1 else none
theorem step_lt {i acc c : Nat} (ha : acc < 2 ^ (7 * i)) (hc : c < 128) : acc + c * 2 ^ (7 * i) < 2 ^ (7 * (i + 1)) := by
  have h1 : acc + c * 2 ^ (7 * i) < (c + 1) * 2 ^ (7 * i) := by rw [Nat.add_mul, Nat.one_mul]; omega
  have h2 : (c + 1) * 2 ^ (7 * i) ≤ 128 * 2 ^ (7 * i) := Nat.mul_le_mul_right _ (by omega)
  have h3 : 2 ^ (7 * (i + 1)) = 128 * 2 ^ (7 * i) := by rw [show 7 * (i + 1) = 7 * i + 7 from by omega, Nat.pow_add, Nat.mul_comm]
  omega
theorem step_64 {i acc c : Nat} (hi : i ≤ 9) (ha : acc < 2 ^ (7 * i)) (hc : c < 128) (h9 : i = 9 → c ≤ 1) : acc + c * 2 ^ (7 * i) < 18446744073709551616 := by
  by_cases h : i = 9
  · subst h
    have := h9 rfl
    have h63 : (2 : Nat) ^ (7 * 9) = 9223372036854775808 := by decide
    rw [h63] at ha ⊢
    have : c * 9223372036854775808 ≤ 1 * 9223372036854775808 := Nat.mul_le_mul_right _ this
    omega
  · have h1 := step_lt ha hc
    have h2 : 2 ^ (7 * (i + 1)) ≤ 2 ^ 63 := Nat.pow_le_pow_right (by omega) (by omega)
    omega
theorem cutL_uv : ∀ (k n i acc : Nat) (rest : List UInt8), n < 128 ^ (k + 1) → i + k ≤ 8 → (i ≠ 0 → n ≠ 0) → cutL i acc (uv n ++ rest) = some (acc + n * 2 ^ (7 * i), rest, true)
  | k, n, i, acc, rest, hn, hik, h0 => by
    by_cases h : n < 128
    · rw [uv_small h]
      have e : (UInt8.ofNat n).toNat = n := by simp only [UInt8.toNat_ofNat']; omega
      simp only [List.cons_append, List.nil_append, cutL, e]
      rw [if_neg (by omega), if_pos h]
      have : (i = 0 ∨ 0 < n) := by
        by_cases hi : i = 0
        · exact .inl hi
        · exact .inr (by have := h0 hi; omega)
      rw [decide_eq_true this]
    · cases k with
      | zero => simp at hn; omega
      | succ k =>
        rw [uv_big h]
        have e : (UInt8.ofNat (n % 128 + 128)).toNat = n % 128 + 128 := by simp only [UInt8.toNat_ofNat']; omega
        simp only [List.cons_append, cutL, e]
        rw [if_neg (by omega), if_neg (by omega), show (n % 128 + 128) % 128 = n % 128 from by omega,
          cutL_uv k (n / 128) (i + 1) _ rest (Nat.div_lt_of_lt_mul (by rw [Nat.pow_succ, Nat.mul_comm] at hn; exact hn)) (by omega) (by intro _; omega)]
        have h3 : n / 128 * 2 ^ (7 * (i + 1)) = n / 128 * 128 * 2 ^ (7 * i) := by rw [show 7 * (i + 1) = 7 + 7 * i from by omega, Nat.pow_add, Nat.mul_assoc]
        have h4 : n % 128 * 2 ^ (7 * i) + n / 128 * 128 * 2 ^ (7 * i) = n * 2 ^ (7 * i) := by rw [← Nat.add_mul]; congr 1; omega
        rw [h3, Nat.add_assoc, h4]
theorem cutA_uv {n : Nat} (h : n < 9223372036854775808) (rest : List UInt8) : cutA (uv n ++ rest) = (n, rest, true) := by
  unfold cutA
  rw [cutL_uv 8 n 0 0 rest (Nat.lt_of_lt_of_le h (by decide)) (by omega) (by intro h; exact absurd rfl h)]
  simp
theorem toUint_uv {n : Nat} (h : n < 9223372036854775808) : toUintA (uv n) = some n := by
  have := cutA_uv h []
  rw [List.append_nil] at this
  unfold toUintA
  rw [this]; simp
/-- How long the number is that bytes begin with, and which it is, if it has two bytes at most. -/
def longA (bs : List UInt8) : Option (Nat × Nat) :=
  if 1 ≤ bs.length then match toUintA (bs.take 1) with
    | some n => some (1, n)
    | none => if 2 ≤ bs.length then (toUintA (bs.take 2)).map fun n => (2, n) else none
  else none
theorem toUint_small {bs : List UInt8} {n : Nat} (h : toUintA bs = some n) (hl : bs.length ≤ 2) : n < 16384 := by
  unfold toUintA cutA at h
  split at h
  · rename_i hh
    cases h
    match bs, hl with
    | [], _ => simp [cutL] at hh
    | [a], _ =>
      by_cases ha : a.toNat < 128
      · simp [cutL, ha]; omega
      · simp [cutL, ha] at hh
    | [a, b], _ =>
      by_cases ha : a.toNat < 128
      · simp [cutL, ha]; omega
      · by_cases hb : b.toNat < 128
        · simp [cutL, ha, hb]; omega
        · simp [cutL, ha, hb] at hh
  · cases h
end Go.SL

/- journal, part b: tlv's numbers; encoded; long. -/
set_option linter.unusedVariables false
set_option linter.unusedSimpArgs false
namespace Go.Proofs.Ytpdmbmnhgcnelaa
open Go Go.SL
attribute [local irreducible] J K Ctr Ends pts slc mapR mapI sbRow stock arrS loopP

theorem Uint_any (n : Nat) (h : n < 18446744073709551616) : Ctr Try.prog 83 [.int .u64 (n : Int)] [] (fun r H => H = [slc 5 1 r (uv n).length (bV (uv n))]) := by
  refine Ctr.enter Try.func83 (by kernel_rfl) rfl Try.ntmps83 rfl rfl ?_
  intro G F R hE
  (refine go ?_)
  (first | refine K_ent (slc_lift 5 1 none _) ?_ | refine J_ent (slc_lift 5 1 none _) ?_)
  have hu10 := uv_len10 h
  refine K_loop (fun s : Nat × List UInt8 × Value => s.2.1 ++ uv s.1 = uv n ∧ s.1 ≤ n) (fun s => s.1)
    (fun s => [(0, .int .u64 (s.1 : Int)), (3, s.2.2)])
    (fun s => slc 5 1 s.2.2 s.2.1.length (bV s.2.1) :: F) (n, [], .slice none 0 0) ⟨rfl, Nat.le_refl _⟩ rfl (by repeat (first | exact keep_nil | refine keep_cons rfl ?_)) entA ?_
  rintro ⟨m, done, v⟩ ⟨hm, hmn⟩ ih
  simp only at hm hmn
  have hlen : done.length + (uv m).length ≤ 10 := by rw [← List.length_append, hm]; exact hu10
  have hpos := uv_pos m
  (first | refine J_shape 0 rfl ?_ | refine K_shape 0 rfl ?_)
  rintro va vc hve
  simp only at hve
  subst hve
  (refine go ?_)
  refine K_condP rfl rfl ?_ ?_
  · intro hge
    simp only at hge
    have hbig : ¬ m < 128 := by omega
    (refine go ?_)
    refine J_convW (U := tab) rfl rfl rfl rfl rfl rfl ?_
    refine J_slot 10 (.int .u8 ((m % 256 : Nat) : Int)) rfl (conv8 m) ?_
    (refine go ?_)
    refine J_slot 11 (u8 (UInt8.ofNat (m % 128 + 128))) rfl (more_u8 m) ?_
    refine J_buildSlice1 (U := tab) (cs := bV [UInt8.ofNat (m % 128 + 128)]) rfl rfl rfl rfl rfl rfl rfl rfl rfl (fun _ _ _ => trivial) ?_
    intro b1
    refine J_append (U := tab) (mm := 1) (news := bV [UInt8.ofNat (m % 128 + 128)]) 1 0 rfl rfl rfl rfl rfl rfl rfl rfl rfl rfl rfl rfl (Vw.pts rfl) rfl (bV_one _) (by simp only; omega) (by show (_ + 1) * 1 ≤ _; simp only; omega) (fun _ => rfl) (fun _ _ _ => trivial) ?_
    intro v1
    rw [show bV done ++ bV [UInt8.ofNat (m % 128 + 128)] = bV (done ++ [UInt8.ofNat (m % 128 + 128)]) from by simp [bV], show done.length + 1 = (done ++ [UInt8.ofNat (m % 128 + 128)]).length from by simp]
    (first | refine J_shape 1 rfl ?_ | refine K_shape 1 rfl ?_)
    rintro wa wc rfl
    (refine go ?_)
    refine J_shr rfl rfl rfl (by omega) ?_
    refine J_slot 7 (.int .u64 ((m / 128 : Nat) : Int)) rfl (congrArg (Value.int .u64) (by show (m : Int) / 128 = _; omega)) ?_
    (refine go ?_)
    refine K_again ih (m / 128, done ++ [UInt8.ofNat (m % 128 + 128)], _) rfl ⟨by simp only [List.append_assoc, List.singleton_append]; rw [← uv_big hbig]; exact hm, by simp only; omega⟩ (by simp only; omega) (by repeat (first | exact keep_nil | refine keep_cons rfl ?_)) entA
  · intro hlt
    simp only at hlt
    have hsm : m < 128 := by omega
    (refine go ?_)
    refine J_slot 16 (u8 (UInt8.ofNat m)) rfl (by simp only [u8, UInt8.toNat_ofNat']; congr 1; omega) ?_
    refine J_buildSlice1 (U := tab) (cs := bV [UInt8.ofNat m]) rfl rfl rfl rfl rfl rfl rfl rfl rfl (fun _ _ _ => trivial) ?_
    intro b1
    refine J_append (U := tab) (mm := 1) (news := bV [UInt8.ofNat m]) 1 0 rfl rfl rfl rfl rfl rfl rfl rfl rfl rfl rfl rfl (Vw.pts rfl) rfl (bV_one _) (by simp only; omega) (by show (_ + 1) * 1 ≤ _; simp only; omega) (fun _ => rfl) (fun _ _ _ => trivial) ?_
    intro v1
    rw [show bV done ++ bV [UInt8.ofNat m] = bV (uv n) from by rw [← hm, uv_small hsm]; simp [bV], show done.length + 1 = (uv n).length from by rw [← hm, uv_small hsm]; simp]
    (refine go ?_)
    (first | refine K_return hE Try.func83 rfl _ rfl rfl entA | refine K_fallEnd hE Try.func83 rfl _ rfl rfl entA)
theorem shlU_slot {x q y : Nat} (hq : q ≤ 64) (h : x * 2 ^ q = y) (hy : y < 18446744073709551616) : Value.int .u64 (IntKind.u64.wrap ((x : Int) * 2 ^ (min ((q : Int).toNat) IntKind.u64.bits))) = .int .u64 (y : Int) := by
  have e : (x : Int) * 2 ^ (min ((q : Int).toNat) IntKind.u64.bits) = (y : Int) := by
    show (x : Int) * 2 ^ (min q 64) = _
    rw [Nat.min_eq_left hq, ← h]; push_cast; rfl
  rw [e, wrap_in (by simp only [inK]; omega)]
theorem nilVw (A : HP) : Vw A (.slice none 0 0) ([] : List UInt8).length (bV []) := ⟨none, 0, rfl, .inl rfl⟩
set_option maxRecDepth 20000 in
theorem cut_any (A : HP) (v : Value) (bs : List UInt8) (hv : Vw A v bs.length (bV bs)) (hcap : ∃ a c, v = .slice a bs.length c ∧ bs.length ≤ c) (hl : bs.length ≤ 9223372036854775807) :
    Ctr Try.prog 99 [v] [A] (fun r H => ∃ rv, r = .tuple #[.int .u64 ((cutA bs).1 : Int), rv, .bool (cutA bs).2.2] ∧ (Vw A rv (cutA bs).2.1.length (bV (cutA bs).2.1) ∧ ∃ a c, rv = .slice a (cutA bs).2.1.length c ∧ (cutA bs).2.1.length ≤ c) ∧ H = [A]) := by
  obtain ⟨a0, c0, rfl, hc0⟩ := hcap
  refine Ctr.enter Try.func99 (by kernel_rfl) rfl Try.ntmps99 rfl rfl ?_
  intro G F R hE
  (refine go ?_)
  refine K_loop (fun s : Nat × Nat => s.1 ≤ bs.length ∧ s.1 ≤ 10 ∧ (s.1 ≤ 9 → s.2 < 2 ^ (7 * s.1)) ∧ cutL 0 0 bs = cutL s.1 s.2 (bs.drop s.1)) (fun s => bs.length - s.1)
    (fun s => [(0, .slice a0 bs.length c0), (5, .int .u64 (s.2 : Int)), (8, .slice a0 bs.length c0), (9, .int .i64 bs.length), (10, .int .i64 s.1)])
    (fun _ => A :: F) (0, 0) ⟨Nat.zero_le _, by omega, by simp, by simp⟩ rfl (by repeat (first | exact keep_nil | refine keep_cons rfl ?_)) entA ?_
  rintro ⟨i, acc⟩ ⟨hi, hi10, hacc, hcut⟩ ih
  simp only at hi hi10 hacc hcut
  (refine go ?_)
  refine K_condP rfl rfl ?_ ?_
  case' refine_2 =>
    intro hge
    simp only at hge
    have hnil : cutA bs = (0, [], false) := by
      unfold cutA; rw [hcut, List.drop_eq_nil_of_le (by omega)]; simp [cutL]
    (refine go ?_)
    rw [hnil] at hE
    (first | refine K_return hE Try.func99 rfl _ rfl ⟨_, rfl, ⟨nilVw A, none, 0, rfl, Nat.le_refl _⟩, rfl⟩ entA | refine K_fallEnd hE Try.func99 rfl _ rfl ⟨_, rfl, ⟨nilVw A, none, 0, rfl, Nat.le_refl _⟩, rfl⟩ entA)
  intro hlt
  simp only at hlt
  have hi' : i < bs.length := by omega
  obtain ⟨ba, oa, ca, hsl⟩ := bV_at hv (by omega)
  simp only [Value.slice.injEq, true_and] at hsl
  obtain ⟨rfl, rfl⟩ := hsl
  obtain ⟨c, hc⟩ : ∃ c, bs[i]? = some c := ⟨bs[i], by simp⟩
  have hdr : bs.drop i = c :: bs.drop (i + 1) := by
    rw [List.drop_eq_getElem_cons hi']; congr 1
    rw [List.getElem?_eq_getElem hi'] at hc; exact Option.some.inj hc
  have hc256 : c.toNat < 256 := c.toNat_lt
  rw [hdr] at hcut
  simp only [cutL] at hcut
  (refine go ?_)
  refine J_at1 (U := tab) i rfl rfl rfl rfl rfl rfl rfl rfl hi' ?_
  refine J_loadAt (U := tab) 0 i rfl rfl rfl hv rfl (bV_get hc) rfl rfl ?_
  repeat' (first | (with_reducible intro _hh) | refine go1 ?_ | refine J_fork ?_ ?_ | refine J_gsP rfl rfl rfl rfl ?_ ?_ | refine K_condP rfl rfl ?_ ?_)
  case' refine_1 =>
    have hbad : (i = 10 ∨ (i = 9 ∧ 1 < c.toNat)) := by simp only at *; omega
  case' refine_2.refine_1.refine_1 =>
    have hbad : (i = 10 ∨ (i = 9 ∧ 1 < c.toNat)) := by simp only at *; omega
  case' refine_2.refine_1.refine_2 => 
    have hgood : ¬ (i = 10 ∨ (i = 9 ∧ 1 < c.toNat)) := by simp only at *; omega
  case' refine_2.refine_2 => 
    have hgood : ¬ (i = 10 ∨ (i = 9 ∧ 1 < c.toNat)) := by simp only at *; omega
  any_goals (
    have hnil : cutA bs = (0, [], false) := by unfold cutA; rw [hcut, if_pos hbad]; rfl
    rw [hnil] at hE
    (first | refine K_return hE Try.func99 rfl _ rfl ⟨_, rfl, ⟨nilVw A, none, 0, rfl, Nat.le_refl _⟩, rfl⟩ entA | refine K_fallEnd hE Try.func99 rfl _ rfl ⟨_, rfl, ⟨nilVw A, none, 0, rfl, Nat.le_refl _⟩, rfl⟩ entA))
  all_goals (
    have hi9 : i ≤ 9 := by omega
    have hac := hacc hi9
    have hm128 : c.toNat % 128 < 128 := Nat.mod_lt _ (by omega)
    have h64 := step_64 (c := c.toNat % 128) hi9 hac hm128 (by intro h; omega)
    refine J_slot 27 (.int .u8 ((c.toNat % 128 : Nat) : Int)) rfl (congrArg (Value.int .u8) (andNot128_u8 _ hc256)) ?_
    (refine go ?_)
    refine J_mul rfl rfl rfl (by simp only [inK]; omega) ?_
    refine J_slot 30 (.int .i64 ((7 * i : Nat) : Int)) rfl (congrArg (Value.int .i64) (by simp only; omega)) ?_
    refine J_shlW rfl rfl rfl (by omega) ?_
    refine J_slot 31 (.int .u64 ((c.toNat % 128 * 2 ^ (7 * i) : Nat) : Int)) rfl (shlU_slot (by omega) rfl (by omega)) ?_
    (refine go ?_)
    refine K_slot 5 (.int .u64 ((acc + c.toNat % 128 * 2 ^ (7 * i) : Nat) : Int)) rfl (congrArg (Value.int .u64) (or_u64 hac h64)) ?_
    (refine go ?_)
    refine K_condP rfl rfl ?_ ?_
    · intro hlow
      have hcm : c.toNat % 128 = c.toNat := by omega
      have hres : cutA bs = (acc + c.toNat % 128 * 2 ^ (7 * i), bs.drop (i + 1), decide (i = 0 ∨ 0 < c.toNat)) := by
        unfold cutA; rw [hcut, if_neg hgood, if_pos (by omega), hcm]; rfl
      refine K_drawA (fun w => Sat G w ([])) (sts 0 14 .nil) rfl (by kernel_rfl) (by kernel_rfl) (by kernel_rfl) (fun w hw => hw.ent entA) ?_
      (refine go ?_)
      refine J_sliceAny (U := tab) (p := (i : Int) + 1) (q := (bs.length : Int)) rfl rfl rfl rfl rfl rfl rfl (by omega) (by omega) (.inl rfl) ?_
      refine J_slot 39 (.slice (sliceAt (some ⟨ba, oa, none⟩) c0 (i + 1) 1) (bs.drop (i + 1)).length (c0 - (i + 1))) rfl (by rw [show ((i : Int) + 1).toNat = i + 1 from by omega, show ((bs.length : Int)).toNat = bs.length from by omega, List.length_drop]; rfl) ?_
      have hvr : Vw A (.slice (sliceAt (some ⟨ba, oa, none⟩) c0 (i + 1) 1) (bs.drop (i + 1)).length (c0 - (i + 1))) (bs.drop (i + 1)).length (bV (bs.drop (i + 1))) := by
        have := hv.cutk (s := 1) (by rw [bV_length]; omega) hc0 (i + 1) (by omega)
        rw [List.length_drop, show bV (bs.drop (i + 1)) = (bV bs).drop ((i + 1) * 1) from by simp [bV, List.map_drop]]
        exact this
      rw [hres] at hE
      repeat' (first | (with_reducible intro _hh) | refine go1 ?_ | refine J_fork ?_ ?_ | refine J_gsP rfl rfl rfl rfl ?_ ?_ | refine K_condP rfl rfl ?_ ?_)
      all_goals first
        | (have hi0 : i = 0 := (by simp only at _hh; omega)
           rw [decide_eq_true (Or.inl hi0 : i = 0 ∨ 0 < c.toNat)] at hE
           (first | refine K_return hE Try.func99 rfl _ rfl ⟨_, rfl, ⟨hvr, _, _, rfl, by simp only [List.length_drop]; omega⟩, rfl⟩ entA | refine K_fallEnd hE Try.func99 rfl _ rfl ⟨_, rfl, ⟨hvr, _, _, rfl, by simp only [List.length_drop]; omega⟩, rfl⟩ entA))
        | (have hi0 : ¬ i = 0 := (by simp only at _hh; omega)
           rw [show decide (i = 0 ∨ 0 < c.toNat) = decide ((0 : Int) < (c.toNat : Int)) from decide_eq_decide.2 ⟨fun h => by omega, fun h => .inr (by omega)⟩] at hE
           (first | refine K_return hE Try.func99 rfl _ rfl ⟨_, rfl, ⟨hvr, _, _, rfl, by simp only [List.length_drop]; omega⟩, rfl⟩ entA | refine K_fallEnd hE Try.func99 rfl _ rfl ⟨_, rfl, ⟨hvr, _, _, rfl, by simp only [List.length_drop]; omega⟩, rfl⟩ entA))
    · intro hhigh
      (refine go ?_)
      refine K_again ih (i + 1, acc + c.toNat % 128 * 2 ^ (7 * i)) rfl ⟨by simp only; omega, by simp only; omega, fun _ => step_lt hac hm128, by rw [hcut, if_neg hgood, if_neg (by omega)]⟩ (by simp only; omega) (by repeat (first | exact keep_nil | refine keep_cons rfl ?_)) entA)
end Go.Proofs.Ytpdmbmnhgcnelaa

/- journal, part c: ToUint; encoded; long; found. -/
set_option linter.unusedVariables false
set_option linter.unusedSimpArgs false
namespace Go.Proofs.Ytpdmbmnhgcnelaa
open Go Go.SL
attribute [local irreducible] J K Ctr Ends pts slc mapR mapI sbRow stock arrS loopP

/-- Bytes that stand somewhere in A. -/
def BAt (A : HP) (v : Value) (bs : List UInt8) : Prop := Vw A v bs.length (bV bs) ∧ ∃ a c, v = .slice a bs.length c ∧ bs.length ≤ c
theorem BAt.cut {A : HP} {a : Option Addr} {n c : Nat} {bs : List UInt8} (h : BAt A (.slice a n c) bs) (p : Nat) (hp : p ≤ bs.length) : BAt A (.slice (sliceAt a c p 1) (bs.length - p) (c - p)) (bs.drop p) := by
  obtain ⟨hv, a', c', he, hc⟩ := h
  simp only [Value.slice.injEq] at he
  obtain ⟨rfl, rfl, rfl⟩ := he
  refine ⟨?_, _, _, by rw [List.length_drop], by rw [List.length_drop]; omega⟩
  have := hv.cutk (s := 1) (by rw [bV_length]; omega) hc p hp
  rw [List.length_drop, show bV (bs.drop p) = (bV bs).drop (p * 1) from by simp [bV, List.map_drop]]
  exact this
theorem BAt.front {A : HP} {a : Option Addr} {n c : Nat} {bs : List UInt8} (h : BAt A (.slice a n c) bs) (q : Nat) (hq : q ≤ bs.length) : BAt A (.slice (sliceAt a c 0 1) q c) (bs.take q) := by
  obtain ⟨hv, a', c', he, hc⟩ := h
  simp only [Value.slice.injEq] at he
  obtain ⟨rfl, rfl, rfl⟩ := he
  have hl : (bs.take q).length = q := by rw [List.length_take]; omega
  refine ⟨?_, _, _, by rw [hl], by rw [hl]; omega⟩
  have := hv.cut0 (s := 1) q
  rw [hl, show bV (bs.take q) = (bV bs).take (q * 1) from by simp [bV, List.map_take]]
  exact this
theorem BAt.mono {A B : HP} {v : Value} {bs : List UInt8} (h : BAt A v bs) (hAB : ∀ h, B h → ∃ h', sub h' h ∧ A h') : BAt B v bs := ⟨h.1.mono hAB, h.2⟩
theorem BAt.piece {A : HP} {a : Option Addr} {n c : Nat} {bs : List UInt8} (h : BAt A (.slice a n c) bs) (p q : Nat) (hp : p ≤ q) (hq : q ≤ bs.length) : BAt A (.slice (sliceAt a c p 1) (q - p) (c - p)) ((bs.drop p).take (q - p)) := by
  have h1 := h.cut p (by omega)
  obtain ⟨hv, a', c', he, hc⟩ := h1
  have hlen : ((bs.drop p).take (q - p)).length = q - p := by rw [List.length_take, List.length_drop]; omega
  refine ⟨?_, _, _, by rw [hlen], by rw [hlen]; obtain ⟨_, _, _, he2, hc2⟩ := h; simp only [Value.slice.injEq] at he2; omega⟩
  obtain ⟨a2, cap2, he2, h0 | ⟨b, o, ha, hc2⟩⟩ := hv
  · simp only [Value.slice.injEq] at he2
    have : (bs.drop p) = [] := by simpa [bV] using h0
    refine ⟨_, _, by rw [hlen], .inl ?_⟩
    rw [this]; simp [bV]
  · simp only [Value.slice.injEq] at he2
    refine ⟨_, _, by rw [hlen], .inr ⟨b, o, by rw [he2.1, ha], fun h' hA j x hj => ?_⟩⟩
    refine hc2 h' hA j x ?_
    rw [show bV ((bs.drop p).take (q - p)) = (bV (bs.drop p)).take (q - p) from by simp [bV, List.map_take]] at hj
    rw [List.getElem?_take] at hj
    split at hj
    · exact hj
    · cases hj
theorem ToUint_any (A : HP) (v : Value) (bs : List UInt8) (hv : BAt A v bs) (hl : bs.length ≤ 9223372036854775807) :
    Ctr Try.prog 90 [v] [A] (fun r H => r = (match toUintA bs with
      | some n => .tuple #[.int .u64 (n : Int), .int .i64 0]
      | none => .tuple #[.int .u64 0, .int .i64 2]) ∧ H = [A]) := by
  refine Ctr.enter Try.func90 (by kernel_rfl) rfl Try.ntmps90 rfl rfl ?_
  intro G F R hE
  (refine go ?_)
  (first | refine J_callE rfl rfl rfl rfl (cut_any A v bs hv.1 hv.2 hl) entA ?_ (fun _ _ _ _ _ => trivial) | refine J_call0E rfl rfl rfl (cut_any A v bs hv.1 hv.2 hl) entA ?_ (fun _ _ _ _ _ => trivial) | (refine go ?_; first | refine J_callE rfl rfl rfl rfl (cut_any A v bs hv.1 hv.2 hl) entA ?_ (fun _ _ _ _ _ => trivial) | refine J_call0E rfl rfl rfl (cut_any A v bs hv.1 hv.2 hl) entA ?_ (fun _ _ _ _ _ => trivial)))
  rintro _ _ ⟨rv, rfl, ⟨hvr, a, c, rfl, _⟩, rfl⟩
  cases hok : (cutA bs).2.2 with
  | false =>
    have hn : toUintA bs = none := by unfold toUintA; rw [if_neg (by rw [hok]; simp)]
    rw [hn] at hE
    (refine go ?_)
    (first | refine K_return hE Try.func90 rfl _ rfl ⟨rfl, rfl⟩ entA | refine K_fallEnd hE Try.func90 rfl _ rfl ⟨rfl, rfl⟩ entA)
  | true =>
    repeat' (first | (with_reducible intro _hh) | refine go1 ?_ | refine J_fork ?_ ?_ | refine J_gsP rfl rfl rfl rfl ?_ ?_ | refine K_condP rfl rfl ?_ ?_)
    · have hn : toUintA bs = none := by unfold toUintA; rw [if_neg (fun h => by rw [h.2] at _hh; simp at _hh)]
      rw [hn] at hE
      (first | refine K_return hE Try.func90 rfl _ rfl ⟨rfl, rfl⟩ entA | refine K_fallEnd hE Try.func90 rfl _ rfl ⟨rfl, rfl⟩ entA)
    · have hn : toUintA bs = some (cutA bs).1 := by unfold toUintA; rw [if_pos ⟨hok, List.eq_nil_of_length_eq_zero (by omega)⟩]
      rw [hn] at hE
      (first | refine K_return hE Try.func90 rfl _ rfl ⟨rfl, rfl⟩ entA | refine K_fallEnd hE Try.func90 rfl _ rfl ⟨rfl, rfl⟩ entA)
/-- A record as bytes. -/
def encL (bs : List UInt8) : List UInt8 := uv bs.length ++ bs
theorem encoded_any (A : HP) (v : Value) (bs : List UInt8) (hv : BAt A v bs) (hl : bs.length ≤ 1000000000000) : Ctr Try.prog 50 [v] [A] (fun r H => H = [slc 5 1 r (encL bs).length (bV (encL bs)), A]) := by
  obtain ⟨a, c, rfl, hc⟩ := hv.2
  refine Ctr.enter Try.func50 (by kernel_rfl) rfl Try.ntmps50 rfl rfl ?_
  intro G F R hE
  (refine go ?_)
  (first | refine J_callE rfl rfl rfl rfl (Uint_any bs.length (by omega)) entA ?_ (fun _ _ _ _ _ => trivial) | refine J_call0E rfl rfl rfl (Uint_any bs.length (by omega)) entA ?_ (fun _ _ _ _ _ => trivial) | (refine go ?_; first | refine J_callE rfl rfl rfl rfl (Uint_any bs.length (by omega)) entA ?_ (fun _ _ _ _ _ => trivial) | refine J_call0E rfl rfl rfl (Uint_any bs.length (by omega)) entA ?_ (fun _ _ _ _ _ => trivial)))
  rintro r _ rfl
  (first | refine J_shape 0 rfl ?_ | refine K_shape 0 rfl ?_)
  rintro ra rc rfl
  (refine go ?_)
  have hu := uv_len10 (n := bs.length) (by omega)
  refine J_append (U := tab) (mm := bs.length) (news := bV bs) 0 1 rfl rfl rfl rfl rfl rfl rfl rfl rfl rfl rfl rfl hv.1 (by show _ = _ * 1; rw [bV_length]; omega) (bV_one _) (by omega) (by show (_ + _) * 1 ≤ _; omega) (fun _ => rfl) (fun _ _ _ => trivial) ?_
  intro v1
  rw [show bV (uv bs.length) ++ bV bs = bV (encL bs) from by simp [bV, encL], show (uv bs.length).length + bs.length = (encL bs).length from by simp [encL]]
  (refine go ?_)
  (first | refine K_return hE Try.func50 rfl _ rfl rfl entA | refine K_fallEnd hE Try.func50 rfl _ rfl rfl entA)
set_option maxRecDepth 20000 in
theorem long_any (A : HP) (v : Value) (bs : List UInt8) (hv : BAt A v bs) (hl : bs.length ≤ 9223372036854775807) :
    Ctr Try.prog 63 [v] [A] (fun r H => r = (match longA bs with
      | some (k, n) => .tuple #[.int .i64 (k : Int), .int .i64 (n : Int), .bool (decide (n ≤ 4096))]
      | none => .tuple #[.int .i64 0, .int .i64 0, .bool false]) ∧ H = [A]) := by
  obtain ⟨a, c, rfl, hc⟩ := hv.2
  refine Ctr.enter Try.func63 (by kernel_rfl) rfl Try.ntmps63 rfl rfl ?_
  intro G F R hE
  (refine go ?_)
  refine K_loop (fun k : Nat => 1 ≤ k ∧ k ≤ 3 ∧ (2 ≤ k → 1 ≤ bs.length ∧ toUintA (bs.take 1) = none) ∧ (3 ≤ k → 2 ≤ bs.length ∧ toUintA (bs.take 2) = none)) (fun k => 3 - k)
    (fun k => [(0, .slice a bs.length c), (5, .int .i64 (k : Int))])
    (fun _ => A :: F) 1 ⟨by omega, by omega, by omega, by omega⟩ rfl (by repeat (first | exact keep_nil | refine keep_cons rfl ?_)) entA ?_
  rintro k ⟨hk1, hk2, h1, h2⟩ ih
  (refine go ?_)
  refine K_condP rfl rfl ?_ ?_
  case' refine_2 =>
    intro hge
    have hn : longA bs = none := by
      unfold longA
      split
      · obtain ⟨_, h3⟩ := h1 (by omega)
        rw [h3]
        simp only
        split
        · obtain ⟨_, h4⟩ := h2 (by omega)
          rw [h4]; rfl
        · rfl
      · rfl
    rw [hn] at hE
    (refine go ?_)
    (first | refine K_return hE Try.func63 rfl _ rfl ⟨rfl, rfl⟩ entA | refine K_fallEnd hE Try.func63 rfl _ rfl ⟨rfl, rfl⟩ entA)
  intro hlt
  have hkl : k ≤ bs.length := by omega
  (refine go ?_)
  refine J_sliceAny (U := tab) (p := 0) (q := (k : Int)) rfl rfl rfl rfl rfl rfl rfl (by omega) (by omega) (.inr (by omega)) ?_
  have hf := hv.front k hkl
  refine J_slot 18 (.slice (sliceAt a c 0 1) k c) rfl (by rw [show (0 : Int).toNat = 0 from rfl, show ((k : Int)).toNat = k from by omega]; rfl) ?_
  (first | refine J_callE rfl rfl rfl rfl (ToUint_any A _ (bs.take k) hf (by rw [List.length_take]; omega)) entA ?_ (fun _ _ _ _ _ => trivial) | refine J_call0E rfl rfl rfl (ToUint_any A _ (bs.take k) hf (by rw [List.length_take]; omega)) entA ?_ (fun _ _ _ _ _ => trivial) | (refine go ?_; first | refine J_callE rfl rfl rfl rfl (ToUint_any A _ (bs.take k) hf (by rw [List.length_take]; omega)) entA ?_ (fun _ _ _ _ _ => trivial) | refine J_call0E rfl rfl rfl (ToUint_any A _ (bs.take k) hf (by rw [List.length_take]; omega)) entA ?_ (fun _ _ _ _ _ => trivial)))
  cases hu : toUintA (bs.take k) with
  | none =>
    rintro _ _ ⟨rfl, rfl⟩
    (refine go ?_)
    refine K_again ih (k + 1) rfl ⟨by omega, by omega, fun h => by
      by_cases hk : k = 1
      · subst hk; exact ⟨by omega, hu⟩
      · exact h1 (by omega), fun h => by
      have hk : k = 2 := by omega
      subst hk; exact ⟨by omega, hu⟩⟩ (by omega) (by repeat (first | exact keep_nil | refine keep_cons rfl ?_)) entA
  | some n =>
    rintro _ _ ⟨rfl, rfl⟩
    have hn16 := toUint_small hu (by rw [List.length_take]; omega)
    have hres : longA bs = some (k, n) := by
      unfold longA
      rw [if_pos (by omega)]
      by_cases hk : k = 1
      · subst hk; rw [hu]
      · have hk : k = 2 := by omega
        subst hk
        obtain ⟨_, h3⟩ := h1 (by omega)
        rw [h3]
        simp only
        rw [if_pos (by omega), hu]; rfl
    rw [hres] at hE
    simp only at hE
    rw [show decide (n ≤ 4096) = decide ((n : Int) ≤ 4096) from decide_eq_decide.2 ⟨fun _ => by omega, fun _ => by omega⟩] at hE
    (refine go ?_)
    (first | refine K_return hE Try.func63 rfl _ rfl ⟨rfl, rfl⟩ entA | refine K_fallEnd hE Try.func63 rfl _ rfl ⟨rfl, rfl⟩ entA)
/-- Of a file's bytes those that count. -/
def headOk (b : List UInt8) (k last : Nat) : Bool :=
  let h := (b.drop (16 * k)).take 16
  decide (last < leN h ∧ leN h ≤ 1073741824 ∧ leN h % 2 = k ∧ leN (h.drop 4) + 32 ≤ b.length ∧ h = headL (leN h) (leN (h.drop 4)))
def lastOf2 (b : List UInt8) (k : Nat) (s : Nat × Nat) : Nat × Nat := if headOk b k s.1 then (leN ((b.drop (16 * k)).take 16), leN (((b.drop (16 * k)).take 16).drop 4)) else s
def foundL (b : List UInt8) : List UInt8 := if b.length < 32 then [] else (b.drop 32).take (lastOf2 b 1 (lastOf2 b 0 (0, 0))).2
theorem hd16 {b : List UInt8} {k : Nat} (hk : 16 * k + 16 ≤ b.length) : ((b.drop (16 * k)).take 16).length = 16 := by rw [List.length_take, List.length_drop]; omega
set_option maxRecDepth 20000 in
theorem found_any (A : HP) (v : Value) (b : List UInt8) (hv : BAt A v b) (hl : b.length ≤ 9223372036854775807) :
    Ctr Try.prog 43 [v] [A] (fun r H => BAt A r (foundL b) ∧ H = [A]) := by
  obtain ⟨a, c, rfl, hc⟩ := hv.2
  refine Ctr.enter Try.func43 (by kernel_rfl) rfl Try.ntmps43 rfl rfl ?_
  intro G F R hE
  repeat' (first | (with_reducible intro _hh) | refine go1 ?_ | refine J_fork ?_ ?_ | refine J_gsP rfl rfl rfl rfl ?_ ?_ | refine K_condP rfl rfl ?_ ?_)
  case' refine_1 =>
    have hn : foundL b = [] := by unfold foundL; rw [if_pos (by omega)]
    rw [hn] at hE
    (first | refine K_return hE Try.func43 rfl _ rfl ⟨⟨nilVw A, none, 0, rfl, Nat.le_refl _⟩, rfl⟩ entA | refine K_fallEnd hE Try.func43 rfl _ rfl ⟨⟨nilVw A, none, 0, rfl, Nat.le_refl _⟩, rfl⟩ entA)
  have hb32 : 32 ≤ b.length := by omega
  refine K_loop (fun s : Nat × Nat × Nat => s.1 ≤ 2 ∧ (s.1 = 0 → s.2 = (0, 0)) ∧ (s.1 = 1 → s.2 = lastOf2 b 0 (0, 0)) ∧ (s.1 = 2 → s.2 = lastOf2 b 1 (lastOf2 b 0 (0, 0))) ∧ s.2.2 + 32 ≤ b.length ∧ s.2.1 ≤ 1073741824) (fun s => 2 - s.1)
    (fun s => [(0, .slice a b.length c), (3, .int .i64 (s.2.1 : Int)), (4, .int .i64 (s.2.2 : Int)), (12, .int .i64 (s.1 : Int))])
    (fun _ => A :: F) (0, 0, 0) ⟨by omega, fun _ => rfl, by omega, by omega, by simp only; omega, by simp only; omega⟩ rfl (by repeat (first | exact keep_nil | refine keep_cons rfl ?_)) entA ?_
  rintro ⟨k, last, len⟩ ⟨hk, hk0, hk1, hk2, hlen, hlast⟩ ih
  simp only at hk hk0 hk1 hk2 hlen hlast
  (refine go ?_)
  refine K_condP rfl rfl ?_ ?_
  case' refine_2 =>
    intro hge
    simp only at hge
    have h2 := hk2 (by omega)
    have hf : foundL b = (b.drop 32).take len := by unfold foundL; rw [if_neg (by omega), ← h2]
    (refine go ?_)
    refine J_sliceAny (U := tab) (p := 32) (q := 32 + (len : Int)) rfl rfl rfl rfl rfl rfl rfl (by omega) (by omega) (.inr (by omega)) ?_
    have hp := hv.piece 32 (32 + len) (by omega) (by omega)
    rw [show 32 + len - 32 = len from by omega, ← hf] at hp
    refine J_slot 58 (.slice (sliceAt a c 32 1) len (c - 32)) rfl (by rw [show (32 : Int).toNat = 32 from rfl, show (32 + (len : Int)).toNat = 32 + len from by omega, show 32 + len - 32 = len from by omega]; rfl) ?_
    (refine go ?_)
    (first | refine K_return hE Try.func43 rfl _ rfl ⟨hp, rfl⟩ entA | refine K_fallEnd hE Try.func43 rfl _ rfl ⟨hp, rfl⟩ entA)
  intro hlt
  simp only at hlt
  have hk16 : 16 * k + 16 ≤ b.length := by omega
  (refine go ?_)
  refine J_mul rfl rfl rfl (by simp only [inK]; omega) ?_
  refine J_slot 17 (.int .i64 ((16 * k : Nat) : Int)) rfl (congrArg (Value.int .i64) (by simp only; omega)) ?_
  refine J_sliceAny (U := tab) (p := ((16 * k : Nat) : Int)) (q := (b.length : Int)) rfl rfl rfl rfl rfl rfl rfl (by omega) (by omega) (.inl rfl) ?_
  refine J_slot 18 (.slice (sliceAt a c (16 * k) 1) (b.length - 16 * k) (c - 16 * k)) rfl (by rw [show (((16 * k : Nat) : Int)).toNat = 16 * k from by omega, show ((b.length : Int)).toNat = b.length from by omega]; rfl) ?_
  have hh1 := hv.cut (16 * k) (by omega)
  refine J_sliceAny (U := tab) (p := 0) (q := 16) rfl rfl rfl rfl rfl rfl rfl (by omega) (by omega) (.inr (by omega)) ?_
  obtain ⟨hd, hhd⟩ : ∃ hd, hd = (b.drop (16 * k)).take 16 := ⟨_, rfl⟩
  have hdl : hd.length = 16 := by rw [hhd]; exact hd16 hk16
  obtain ⟨a1, ha1⟩ : ∃ a1, a1 = sliceAt (sliceAt a c (16 * k) 1) (c - 16 * k) 0 1 := ⟨_, rfl⟩
  have hh2 : BAt A (.slice a1 16 (c - 16 * k)) hd := by
    rw [show b.length - 16 * k = (b.drop (16 * k)).length from by rw [List.length_drop]] at hh1
    have := hh1.front 16 (by rw [List.length_drop]; omega)
    rw [ha1, hhd]; exact this
  refine J_slot 19 (.slice a1 16 (c - 16 * k)) rfl (by rw [show (0 : Int).toNat = 0 from rfl, show (16 : Int).toNat = 16 from rfl, ha1]; rfl) ?_
  (refine go ?_)
  refine K_drawA (fun w => Sat G w ([])) (.st 0 (.st 2 (.st 3 (.act 1 (.act 4 (.st 5 (.st 6 .nil))))))) rfl (by kernel_rfl) (by kernel_rfl) (by kernel_rfl) (fun w hw => hw.ent entA) ?_
  (refine go ?_)
  refine J_sliceAny (U := tab) (p := 4) (q := 16) rfl rfl rfl rfl rfl rfl rfl (by omega) (by omega) (.inl rfl) ?_
  have hh3 := (show BAt A (.slice a1 hd.length (c - 16 * k)) hd by rw [hdl]; exact hh2).cut 4 (by omega)
  rw [hdl] at hh3
  refine J_slot 23 (.slice (sliceAt a1 (c - 16 * k) 4 1) (16 - 4) (c - 16 * k - 4)) rfl (by rw [show (4 : Int).toNat = 4 from rfl, show (16 : Int).toNat = 16 from rfl]; rfl) ?_
  (first | refine J_callE rfl rfl rfl rfl (told_any A _ hd hh2.1 (by omega)) entA ?_ (fun _ _ w hp hw => by obtain ⟨_, rfl⟩ := hp; exact hw.ent entA) | refine J_call0E rfl rfl rfl (told_any A _ hd hh2.1 (by omega)) entA ?_ (fun _ _ w hp hw => by obtain ⟨_, rfl⟩ := hp; exact hw.ent entA))
  rintro _ _ ⟨rfl, rfl⟩
  (first | refine J_callE rfl rfl rfl rfl (told_any A _ (hd.drop 4) hh3.1 (by rw [List.length_drop]; omega)) entA ?_ (fun _ _ w hp hw => by obtain ⟨_, rfl⟩ := hp; exact hw.ent entA) | refine J_call0E rfl rfl rfl (told_any A _ (hd.drop 4) hh3.1 (by rw [List.length_drop]; omega)) entA ?_ (fun _ _ w hp hw => by obtain ⟨_, rfl⟩ := hp; exact hw.ent entA))
  rintro _ _ ⟨rfl, rfl⟩
  have hn := leN_lt hd
  have hm := leN_lt (hd.drop 4)
  have hok : headOk b k last = decide (last < leN hd ∧ leN hd ≤ 1073741824 ∧ leN hd % 2 = k ∧ leN (hd.drop 4) + 32 ≤ b.length ∧ hd = headL (leN hd) (leN (hd.drop 4))) := by unfold headOk; rw [← hhd]
  have hnx : ∀ s' : Nat × Nat, s' = lastOf2 b k (last, len) → s'.2 + 32 ≤ b.length ∧ s'.1 ≤ 1073741824 → (k + 1 ≤ 2 ∧ (k + 1 = 0 → s' = (0, 0)) ∧ (k + 1 = 1 → s' = lastOf2 b 0 (0, 0)) ∧ (k + 1 = 2 → s' = lastOf2 b 1 (lastOf2 b 0 (0, 0))) ∧ s'.2 + 32 ≤ b.length ∧ s'.1 ≤ 1073741824) := by
    intro s' h1 h2
    refine ⟨by omega, by omega, fun h => ?_, fun h => ?_, h2⟩
    · have : k = 0 := by omega
      subst this; rw [h1, hk0 rfl]
    · have : k = 1 := by omega
      subst this; rw [h1, hk1 rfl]
  have hbad : headOk b k last = false → (last, len) = lastOf2 b k (last, len) := fun h => by unfold lastOf2; rw [if_neg (by rw [h]; simp)]
  have hgood : headOk b k last = true → (leN hd, leN (hd.drop 4)) = lastOf2 b k (last, len) := fun h => by unfold lastOf2; rw [if_pos h, ← hhd]
  repeat' (first | (with_reducible intro _hh) | refine go1 ?_ | refine J_fork ?_ ?_ | refine J_gsP rfl rfl rfl rfl ?_ ?_ | refine K_condP rfl rfl ?_ ?_ | refine J_rem rfl rfl rfl (by omega) (by omega) ?_)
  any_goals (
    have hf : headOk b k last = false := by rw [hok]; exact decide_eq_false (fun h => by simp only at *; omega)
    refine K_again ih (k + 1, last, len) rfl (hnx _ (hbad hf) ⟨hlen, hlast⟩) (by simp only; omega) (by repeat (first | exact keep_nil | refine keep_cons rfl ?_)) entA)
  (first | refine J_callE rfl rfl rfl rfl (head_any (leN hd) (leN (hd.drop 4)) (by omega) (by omega)) entA ?_ (fun _ _ _ _ _ => trivial) | refine J_call0E rfl rfl rfl (head_any (leN hd) (leN (hd.drop 4)) (by omega) (by omega)) entA ?_ (fun _ _ _ _ _ => trivial) | (refine go ?_; first | refine J_callE rfl rfl rfl rfl (head_any (leN hd) (leN (hd.drop 4)) (by omega) (by omega)) entA ?_ (fun _ _ _ _ _ => trivial) | refine J_call0E rfl rfl rfl (head_any (leN hd) (leN (hd.drop 4)) (by omega) (by omega)) entA ?_ (fun _ _ _ _ _ => trivial)))
  rintro hv2 _ rfl
  refine J_slcVw 0 rfl ?_
  intro hvh
  (first | refine J_shape 0 rfl ?_ | refine K_shape 0 rfl ?_)
  rintro xa xc rfl
  (refine go ?_)
  (first | refine J_callE rfl rfl rfl rfl (Equal_any A (slc 5 1 (.slice xa (headL (leN hd) (leN (hd.drop 4))).length xc) (headL (leN hd) (leN (hd.drop 4))).length (bV (headL (leN hd) (leN (hd.drop 4))))) (.slice a1 16 (c - 16 * k)) (.slice xa (headL (leN hd) (leN (hd.drop 4))).length xc) hd (headL (leN hd) (leN (hd.drop 4))) hh2.1 hvh) entA ?_ (fun _ _ _ _ _ => trivial) | refine J_call0E rfl rfl rfl (Equal_any A (slc 5 1 (.slice xa (headL (leN hd) (leN (hd.drop 4))).length xc) (headL (leN hd) (leN (hd.drop 4))).length (bV (headL (leN hd) (leN (hd.drop 4))))) (.slice a1 16 (c - 16 * k)) (.slice xa (headL (leN hd) (leN (hd.drop 4))).length xc) hd (headL (leN hd) (leN (hd.drop 4))) hh2.1 hvh) entA ?_ (fun _ _ _ _ _ => trivial) | (refine go ?_; first | refine J_callE rfl rfl rfl rfl (Equal_any A (slc 5 1 (.slice xa (headL (leN hd) (leN (hd.drop 4))).length xc) (headL (leN hd) (leN (hd.drop 4))).length (bV (headL (leN hd) (leN (hd.drop 4))))) (.slice a1 16 (c - 16 * k)) (.slice xa (headL (leN hd) (leN (hd.drop 4))).length xc) hd (headL (leN hd) (leN (hd.drop 4))) hh2.1 hvh) entA ?_ (fun _ _ _ _ _ => trivial) | refine J_call0E rfl rfl rfl (Equal_any A (slc 5 1 (.slice xa (headL (leN hd) (leN (hd.drop 4))).length xc) (headL (leN hd) (leN (hd.drop 4))).length (bV (headL (leN hd) (leN (hd.drop 4))))) (.slice a1 16 (c - 16 * k)) (.slice xa (headL (leN hd) (leN (hd.drop 4))).length xc) hd (headL (leN hd) (leN (hd.drop 4))) hh2.1 hvh) entA ?_ (fun _ _ _ _ _ => trivial)))
  rintro _ _ ⟨rfl, rfl⟩
  repeat' (first | (with_reducible intro _hh) | refine go1 ?_ | refine J_fork ?_ ?_ | refine J_gsP rfl rfl rfl rfl ?_ ?_ | refine K_condP rfl rfl ?_ ?_)
  · have hf : headOk b k last = true := by rw [hok]; exact decide_eq_true (by refine ⟨?_, ?_, ?_, ?_, ‹_›⟩ <;> (simp only at *; omega))
    (refine go ?_)
    refine K_again ih (k + 1, leN hd, leN (hd.drop 4)) rfl (hnx _ (hgood hf) ⟨by simp only at *; omega, by simp only at *; omega⟩) (by simp only; omega) (by repeat (first | exact keep_nil | refine keep_cons rfl ?_)) entA
  · have hf : headOk b k last = false := by rw [hok]; exact decide_eq_false (fun h => ‹¬ _› h.2.2.2.2)
    refine K_again ih (k + 1, last, len) rfl (hnx _ (hbad hf) ⟨hlen, hlast⟩) (by simp only; omega) (by repeat (first | exact keep_nil | refine keep_cons rfl ?_)) entA
end Go.Proofs.Ytpdmbmnhgcnelaa

