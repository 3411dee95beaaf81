/- Texts of one claim, joined: Fs0, Fs, Fr, EngK, Dk0, Gg0, Bs, EngL, EngAr, EngT, EngT2, EngT3. -/
import Derived.Test.YtpecmnaikjbanaaGreatDoorQBH3
import Derived.Test.YtpecmnaikjbanaaGreatDoorQBH4
import Derived.Test.YtpecmnaikjbanaaGreatDoorQBH5
import Derived.Test.YtpecmnaikjbanaaGreatDoorQBH6
/- files, part s0: plain laws for Crash. -/
set_option linter.unusedVariables false
set_option linter.unusedSimpArgs false
namespace Go.Proofs.YtpecmnaikjbanaaGreatDoor
open Go Go.SL
attribute [local irreducible] J K Ctr Ends pts slc mapR mapI sbRow stock arrS

abbrev Fss := List (Nat × List UInt8 × List UInt8)
/-- The memory's files are these. -/
structure FilesAre (arrs0 arrs : Arrs) (files : List (Nat × Value × Value)) (fs : Fss) (ids : List Nat) : Prop where
  all : All2 (fun x y => x.1 = y.1 ∧ BIn arrs x.2.1 y.2.1 ∧ BIn arrs x.2.2 y.2.2) files fs
  sub : ∀ x ∈ arrs0, x ∈ arrs
  ids : fs.map (·.1) = ids
  small : ∀ x ∈ fs, x.2.1.length ≤ 1048576 ∧ x.2.2.length ≤ 1048576
def toldAt (stay : List UInt8) (i : Nat) : Bool := decide (i / 8 < stay.length ∧ ((stay.getD (i / 8) 0).toNat / 2 ^ (i % 8)) % 2 = 1)
theorem map_one (g : Nat × List UInt8 × List UInt8 → Nat × List UInt8 × List UInt8) {fs : Fss} (hn : (fs.map (·.1)).Nodup) {i f : Nat} {x : List UInt8 × List UInt8} (hi : fs[i]? = some (f, x)) : (fs.map fun y => if y.1 = f then g y else y) = fs.set i (g (f, x)) := by
  induction fs generalizing i with
  | nil => simp at hi
  | cons y l ih =>
    simp only [List.map_cons, List.nodup_cons] at hn
    cases i with
    | zero =>
      simp at hi
      subst hi
      simp only [List.map_cons, if_true, List.set_cons_zero, List.cons.injEq, true_and]
      rw [List.map_congr_left (g := id) (fun z hz => ?_), List.map_id]
      have : z.1 ≠ f := fun e => hn.1 (List.mem_map.2 ⟨z, hz, e⟩)
      simp [this]
    | succ i =>
      simp at hi
      have hne : y.1 ≠ f := fun e => hn.1 (List.mem_map.2 ⟨_, List.mem_of_getElem? hi, e.symm⟩)
      have := ih hn.2 hi
      simp only [List.map_cons, hne, if_false, List.set_cons_succ, this]
theorem FilesAre.get {arrs0 arrs : Arrs} {files : List (Nat × Value × Value)} {fs : Fss} {ids : List Nat} (h : FilesAre arrs0 arrs files fs ids) (hn : ids.Nodup) {f : Nat} (hf : f ∈ ids) :
    ∃ (j : Nat) (v1 v2 : Value) (n s : List UInt8), files[j]? = some (f, v1, v2) ∧ fs[j]? = some (f, n, s) ∧ BIn arrs v1 n ∧ BIn arrs v2 s ∧ n.length ≤ 1048576 ∧ s.length ≤ 1048576 ∧ (fs.find? fun x => decide (x.1 = f)) = some (f, n, s) := by
  rw [← h.ids] at hf hn
  obtain ⟨⟨f', n, s⟩, hm, rfl⟩ := List.mem_map.1 hf
  obtain ⟨i, hi⟩ := List.getElem?_of_mem hm
  obtain ⟨⟨f2, v1, v2⟩, hx, h1, h2, h3⟩ := h.all.right hi
  simp only at h1 h2 h3
  subst h1
  exact ⟨i, v1, v2, n, s, hx, hi, h2, h3, (h.small _ hm).1, (h.small _ hm).2, find_nodup hn hi⟩
theorem FilesAre.put {arrs0 arrs arrs' : Arrs} {files : List (Nat × Value × Value)} {fs : Fss} {ids : List Nat} (h : FilesAre arrs0 arrs files fs ids) (hs : ∀ x ∈ arrs, x ∈ arrs') {j f : Nat} {v1 v2 : Value} {n s : List UInt8} {y : List UInt8 × List UInt8}
    (hj : fs[j]? = some (f, y)) (h1 : BIn arrs' v1 n) (h2 : BIn arrs' v2 s) (hl : n.length ≤ 1048576 ∧ s.length ≤ 1048576) : FilesAre arrs0 arrs' (files.set j (f, v1, v2)) (fs.set j (f, n, s)) ids where
  all := All2.set (h.all.mono fun x y hxy => ⟨hxy.1, hxy.2.1.mono hs, hxy.2.2.mono hs⟩) j ⟨rfl, h1, h2⟩
  sub x hx := hs x (h.sub x hx)
  ids := by
    rw [← h.ids, List.map_set]
    apply List.ext_getElem?
    intro i
    rw [List.getElem?_set]
    split
    · rename_i e; subst e; rw [List.getElem?_map, hj]
      have : j < (fs.map (·.1)).length := by
        rw [List.length_map]
        rcases Nat.lt_or_ge j fs.length with h | h
        · exact h
        · rw [List.getElem?_eq_none h] at hj; cases hj
      simp [this]
      rcases Nat.lt_or_ge j fs.length with h | h
      · exact h
      · rw [List.getElem?_eq_none h] at hj; cases hj
    · rfl
  small x hx := by
    rcases List.mem_or_eq_of_mem_set hx with h' | rfl
    · exact h.small x h'
    · exact hl
theorem drop_cons {α : Type} {l : List α} {i : Nat} {x : α} (h : l[i]? = some x) : l.drop i = x :: l.drop (i + 1) := by
  have hlt : i < l.length := by
    rcases Nat.lt_or_ge i l.length with h' | h'
    · exact h'
    · rw [List.getElem?_eq_none h'] at h; cases h
  rw [List.drop_eq_getElem_cons hlt]
  rw [List.getElem?_eq_getElem hlt] at h; cases h; rfl
theorem lasts_some {stay : List UInt8} {torn cut : Int} {i : Nat} {ws : List (Nat × Nat × List UInt8)} {fs : Fss} {f a j : Nat} {b c n s : List UInt8} (h : ws[i]? = some (f, a, b)) (hn : (fs.map (·.1)).Nodup) (hj : fs[j]? = some (f, n, s))
    (hk : Ab.kept stay torn cut i b = some c) : Ab.lasts stay torn cut i (ws.drop i) fs = Ab.lasts stay torn cut (i + 1) (ws.drop (i + 1)) (fs.set j (f, n, wroteL s a c)) := by
  rw [drop_cons h]
  simp only [Ab.lasts, hk]
  rw [find_nodup hn hj]
  have := map_one (fun y => (y.1, y.2.1, wroteL s a c)) hn hj
  unfold Ab.updSure
  simp only [Option.map_some, Option.getD_some]
  rw [this]
theorem lasts_none {stay : List UInt8} {torn cut : Int} {i : Nat} {ws : List (Nat × Nat × List UInt8)} {fs : Fss} {f a : Nat} {b : List UInt8} (h : ws[i]? = some (f, a, b))
    (hk : Ab.kept stay torn cut i b = none) : Ab.lasts stay torn cut i (ws.drop i) fs = Ab.lasts stay torn cut (i + 1) (ws.drop (i + 1)) fs := by
  rw [drop_cons h]
  simp only [Ab.lasts, hk]
theorem kept_torn {stay : List UInt8} {torn cut : Int} {i c : Nat} {b : List UInt8} (hi : (i : Int) = torn) (hc : max 0 (min cut b.length) = (c : Int)) : Ab.kept stay torn cut i b = if c = 0 then none else some (b.take c) := by
  unfold Ab.kept
  rw [if_pos hi]
  have e : (max 0 (min cut (b.length : Int))).toNat = c := by omega
  simp only [e]
  have hcb : c ≤ b.length := by omega
  by_cases h0 : c = 0
  · simp [h0]
  · have hlen : (b.take c).length = c := by rw [List.length_take]; omega
    have : b.take c ≠ [] := fun he => by rw [he] at hlen; simp at hlen; omega
    rw [if_neg this, if_neg h0]
theorem kept_else {stay : List UInt8} {torn cut : Int} {i : Nat} {b : List UInt8} (hi : (i : Int) ≠ torn) : Ab.kept stay torn cut i b = if toldAt stay i = true then some b else none := by
  unfold Ab.kept toldAt
  rw [if_neg hi]
  simp only [decide_eq_true_eq]
/-- Files that are reached are as they surely are. -/
def mark (S : List Nat) (fs : Fss) : Fss := fs.map fun x => if x.1 ∈ S then (x.1, x.2.2, x.2.2) else x
theorem mark_nil (fs : Fss) : mark [] fs = fs := by simp [mark]
theorem mark_ext {S S' : List Nat} (fs : Fss) (h : ∀ x, x ∈ S ↔ x ∈ S') : mark S fs = mark S' fs := by
  unfold mark; apply List.map_congr_left; intro x _; simp only [h]
theorem mark_ids (S : List Nat) (fs : Fss) : (mark S fs).map (·.1) = fs.map (·.1) := by
  unfold mark; rw [List.map_map]; apply List.map_congr_left; intro x _; simp only [Function.comp]; split <;> rfl
theorem mark_set {S : List Nat} {fs : Fss} (hn : (fs.map (·.1)).Nodup) {j f : Nat} {n s : List UInt8} (hj : (mark S fs)[j]? = some (f, n, s)) : (mark S fs).set j (f, s, s) = mark (f :: S) fs := by
  have h1 := map_one (fun y => (y.1, y.2.2, y.2.2)) (by rw [mark_ids]; exact hn) hj
  rw [← h1]
  unfold mark
  rw [List.map_map]
  apply List.map_congr_left
  intro x _
  simp only [Function.comp, List.mem_cons]
  by_cases hx : x.1 ∈ S <;> by_cases hf : x.1 = f <;> simp only [hx, hf, if_true, if_false, or_true, true_or, or_false, false_or, if_pos, if_neg, not_false_eq_true] <;> simp_all
theorem lasts_ids {stay : List UInt8} {torn cut : Int} (ws : List (Nat × Nat × List UInt8)) : ∀ (i : Nat) (fs : Fss), (Ab.lasts stay torn cut i ws fs).map (·.1) = fs.map (·.1) := by
  induction ws with
  | nil => intro i fs; rfl
  | cons w ws ih =>
    intro i fs
    unfold Ab.lasts
    cases Ab.kept stay torn cut i w.2.2 with
    | none => exact ih _ _
    | some c =>
      simp only
      rw [ih]
      unfold Ab.updSure
      rw [List.map_map]; apply List.map_congr_left; intro x _; simp only [Function.comp]; split <;> rfl
/-- The disk behind a crash. -/
theorem Rel.crashed {D : Dk} {A : Ab} (h : Rel D A) {last torn cut : Int} {stay : List UInt8} {q b1 b0 : Nat} {nm : List (ByteArray × Nat)} {arrs' : Arrs} {files' : List (Nat × Value × Value)} {w p : Value} (hw : w = .slice none 0 0) (hp : p = .slice none 0 0)
    (hq : max 0 (min last ((A.states.length : Int) - 1)) = q) (hnm : A.states[q]? = some nm) (hb : (b1, ptrs nm) ∈ D.maps)
    (hF : FilesAre D.arrs arrs' files' (mark (Ab.reach (A.states ++ [nm])) (Ab.lasts stay torn cut 0 A.writes A.fs)) (A.fs.map (·.1))) :
    Rel ⟨D.room, b1, .slice (some ⟨b0, 0, none⟩) 1 1, w, p, false, D.maps, arrs', files', [b1], []⟩ (A.crash last stay torn cut) := by
  subst hw hp
  have hst : nm ∈ A.states := List.mem_of_getElem? hnm
  have e : A.crash last stay torn cut = { A with names := nm, states := [nm], writes := [], plan := [], off := false, fs := mark (Ab.reach (A.states ++ [nm])) (Ab.lasts stay torn cut 0 A.writes A.fs) } := by
    have e1 : (max 0 (min last ((A.states.length : Int) - 1))).toNat = q := by omega
    have e2 : A.states.getD (max 0 (min last ((A.states.length : Int) - 1))).toNat [] = nm := by rw [e1, List.getD_eq_getElem?_getD, hnm]; rfl
    simp only [Ab.crash, e2]; rfl
  rw [e]
  have hsub : ∀ st ∈ nm :: [nm], st ∈ A.names :: A.states := fun st hs => by
    simp only [List.mem_cons, List.not_mem_nil, or_false] at hs
    rcases hs with rfl | rfl <;> exact List.mem_cons_of_mem _ hst
  exact
  { room := h.room, off := rfl, names := hb, states := All2.one hb, fs := hF.all, writes := All2.nil, plan := BIn.nil _ _ _
    ids := by simp only; rw [hF.ids]; exact h.ids
    known := fun st hs x hx => by simp only; rw [hF.ids]; exact h.known st (hsub st hs) x hx
    knownW := by simp
    nodup := fun st hs => h.nodup st (hsub st hs)
    smallF := hF.small
    smallW := by simp
    smallN := fun st hs => h.smallN st (hsub st hs)
    smallR := h.smallR, smallP := by simp, full := by simp }
end Go.Proofs.YtpecmnaikjbanaaGreatDoor

/- files, part s: Crash. -/
set_option linter.unusedVariables false
set_option linter.unusedSimpArgs false
namespace Go.Proofs.YtpecmnaikjbanaaGreatDoor
open Go Go.SL
attribute [local irreducible] J K Ctr Ends pts slc mapR mapI sbRow stock arrS

set_option maxRecDepth 20000 in
theorem Crash_any (bd : Nat) (D : Dk) (A : Ab) (hR : Rel D A) (last torn cut : Int) (X : HP) (bv : Value) (stay : List UInt8) (hv : Vw X bv stay.length (bV stay)) (hsl : stay.length ≤ 9223372036854775807) (hst : A.states.length ≤ 1000000000) (hwl : A.writes.length ≤ 1000000000)
    (h1 : -9223372036854775808 ≤ last ∧ last ≤ 9223372036854775807) (h2 : -9223372036854775808 ≤ torn ∧ torn ≤ 9223372036854775807) (h3 : -9223372036854775808 ≤ cut ∧ cut ≤ 9223372036854775807) :
    Ctr Tryz.prog 33 [ptr bd, .int .i64 last, bv, .int .i64 torn, .int .i64 cut] [disk bd D, X] (fun v H => ∃ D', Rel D' (A.crash last stay torn cut) ∧ H = [disk bd D', X]) := by
  obtain ⟨a0, c0, rfl⟩ := hv.shape
  obtain ⟨room, bm, sts, wrs, pln, off, maps, arrs, files, stb, wl⟩ := D
  have hlen := hR.states.1
  have hwlen := hR.writes.1
  have hfull := hR.full
  have hpos : 0 < A.states.length := List.length_pos_iff.2 hfull
  simp only at hlen hwlen
  refine Ctr.enter Tryz.func33 (by kernel_rfl) rfl Tryz.ntmps33 rfl rfl ?_
  intro G F R hE
  refine K_ent (disk_o _ _ _ _ _ _ _ _ _ _ _ _ _) ?_
  refine K_shape 4 rfl ?_
  rintro sa cs rfl
  refine K_drawA (fun w => Sat G w ([pts bd (cl [.int .i64 room, .map (some bm), .slice sa stb.length cs, wrs, pln, .bool off] 85), slc 81 1 (.slice sa stb.length cs) stb.length (stb.map fun b => .map (some b))])) (.st 0 (.st 1 (.st 2 (.st 3 (.st 4 (.st 5 (.st 6 (.st 7 (.st 8 (.st 9 (.st 10 (.st 11 (.st 12 (.st 13 (.st 14 (.st 15 (.st 16 (.st 17 (.act 18 .nil))))))))))))))))))) rfl (by kernel_rfl) (by kernel_rfl) (by kernel_rfl) (fun w hw => hw.ent (Ent.pickOnly ([0, 4]) rfl)) ?_
  (refine go ?_)
  refine J_slcAt 4 rfl (by omega) ?_
  rintro bs os cs' hs hvs
  simp only [Value.slice.injEq, true_and] at hs
  obtain ⟨rfl, rfl⟩ := hs
  obtain ⟨q, hq⟩ : ∃ q : Nat, max 0 (min last ((stb.length : Int) - 1)) = q := Int.eq_ofNat_of_zero_le (by omega)
  have hqs : q < stb.length := by omega
  refine J_at1 (U := tab) q rfl rfl rfl rfl rfl rfl rfl hq hqs ?_
  obtain ⟨b1, hb1⟩ : ∃ b1, stb[q]? = some b1 := ⟨stb[q], by simp⟩
  refine J_loadAtS (U := tab) 1 q rfl rfl rfl hvs rfl (c := .map (some b1)) (by simp [hb1]) rfl rfl ?_
  (refine go ?_)
  refine J_ent (Ent.pick [5] rfl) ?_
  refine J_shape 0 rfl ?_
  rintro wa wc rfl
  (refine go ?_)
  refine K_loop (fun s : Nat × Arrs × List (Nat × Value × Value) × List (Nat × List UInt8 × List UInt8) => s.1 ≤ wl.length ∧ FilesAre arrs s.2.1 s.2.2.1 s.2.2.2 (A.fs.map (·.1)) ∧ Ab.lasts stay torn cut s.1 (A.writes.drop s.1) s.2.2.2 = Ab.lasts stay torn cut 0 A.writes A.fs) (fun s => wl.length - s.1)
    (fun s => [(0, ptr bd), (2, .slice a0 stay.length c0), (3, .int .i64 torn), (4, .int .i64 cut), (38, .slice wa wl.length wc), (39, .int .i64 wl.length), (40, .int .i64 s.1)])
    (fun s => slc 119 3 (.slice wa wl.length wc) wl.length (wcells wl) :: pts bd (cl [.int .i64 room, .map (some b1), .slice (some ⟨bs, os, none⟩) stb.length cs, .slice wa wl.length wc, pln, .bool off] 85) :: stock mapG maps :: arrS 5 s.2.1 :: stock fileG s.2.2.1 :: slc 81 1 (.slice (some ⟨bs, os, none⟩) stb.length cs) stb.length (stb.map fun b => .map (some b)) :: X :: F)
    (0, arrs, files, A.fs) ⟨by simp, ⟨hR.fs, fun x h => h, rfl, hR.smallF⟩, rfl⟩ rfl (by repeat (first | exact keep_nil | refine keep_cons rfl ?_)) (Ent.refl _) ?_
  rintro ⟨i, arrs1, files1, fs1⟩ ⟨hi, hF, hL⟩ ih
  simp only at hi hF hL
  (refine go ?_)
  refine K_condP rfl rfl ?_ ?_
  · intro hlt
    simp only at hlt
    have hi' : i < wl.length := by omega
    obtain ⟨⟨fx, ax, bx⟩, hx⟩ : ∃ x, wl[i]? = some x := ⟨wl[i], by simp [hi']⟩
    obtain ⟨⟨fy, ay, by_⟩, hy, hxy1, hxy2, hxy3⟩ := hR.writes.left hx
    simp only at hxy1 hxy2 hxy3
    subst hxy1 hxy2
    have hb3 := hxy3.mono hF.sub
    obtain ⟨ba, bc, rfl, hbc⟩ := hxy3.shape
    (refine go ?_)
    refine J_slcVw 0 rfl ?_
    intro hvw
    obtain ⟨bw, ow, cw, hsw⟩ := hvw.some (by rw [← List.length_pos_iff, wcells_eq, chunk_len lateC_len]; omega)
    simp only [Value.slice.injEq, true_and] at hsw
    obtain ⟨rfl, rfl⟩ := hsw
    refine J_at (U := tab) i 3 rfl rfl rfl rfl rfl rfl rfl rfl hi' ?_
    refine J_loadElem (U := tab) (es := lateC (fx, ax, .slice ba by_.length bc)) 0 (i * 3) rfl rfl rfl hvw rfl (fun q v hq => ?_) rfl rfl rfl ?_
    · have hj3 : q < 3 := by
        rcases Nat.lt_or_ge q 3 with h | h
        · exact h
        · rw [List.getElem?_eq_none (by rw [lateC_len]; exact h)] at hq; cases hq
      rw [wcells_eq, chunk_get lateC_len hx q hj3]; exact hq
    refine J_alloc (U := tab) rfl rfl rfl (fun _ _ _ => trivial) ?_
    intro bw1
    (refine go ?_)
    refine J_shr rfl rfl rfl (by omega) ?_
    refine J_slot 46 (.int .i64 ((i / 8 : Nat) : Int)) rfl (congrArg (Value.int .i64) (by show (i : Int) / 8 = ((i / 8 : Nat) : Int); omega)) ?_
    (refine go ?_)
    refine J_gsP rfl rfl rfl rfl ?_ ?_
    case' refine_2 =>
      intro hs1
      (refine go ?_)
      refine K_slot 12 (.bool (toldAt stay i)) rfl (congrArg Value.bool (by
        unfold toldAt
        exact (decide_eq_false (by omega)).symm)) ?_
    case' refine_1 =>
      intro hs1
      obtain ⟨bst, ost, cst, hsst⟩ := hv.some (by rw [← List.length_pos_iff, bV_length]; omega)
      simp only [Value.slice.injEq, true_and] at hsst
      obtain ⟨rfl, rfl⟩ := hsst
      (refine go ?_)
      refine J_shr rfl rfl rfl (by omega) ?_
      refine J_slot 53 (.int .i64 ((i / 8 : Nat) : Int)) rfl (congrArg (Value.int .i64) (by show (i : Int) / 8 = ((i / 8 : Nat) : Int); omega)) ?_
      have hi8 : i / 8 < stay.length := by omega
      (refine go ?_)
      refine J_at1 (U := tab) (i / 8) rfl rfl rfl rfl rfl rfl rfl rfl hi8 ?_
      (refine go ?_)
      obtain ⟨sx, hsx⟩ : ∃ x, stay[i / 8]? = some x := ⟨stay[i / 8]'hi8, by simp⟩
      refine J_loadV (U := tab) 7 rfl rfl rfl (hv.cell (bV_get hsx)) rfl rfl ?_
      (refine go ?_)
      refine J_slot 57 (.int .i64 ((i % 2 ^ 3 : Nat) : Int)) rfl (congrArg (Value.int .i64) (and_mask_i64 i 3 (by omega) (by omega))) ?_
      (refine go ?_)
      refine J_shr rfl rfl rfl (by omega) ?_
      have hsh : (sx.toNat : Int) / 2 ^ (min (((i % 2 ^ 3 : Nat) : Int).toNat) IntKind.u8.bits) = ((sx.toNat / 2 ^ (i % 8) : Nat) : Int) := by
        have e1 : min (((i % 2 ^ 3 : Nat) : Int).toNat) IntKind.u8.bits = i % 8 := by show min (i % 8) 8 = i % 8; omega
        rw [e1]; simp
      refine J_slot 58 (.int .u8 ((sx.toNat / 2 ^ (i % 8) : Nat) : Int)) rfl (congrArg (Value.int .u8) hsh) ?_
      have hsb : sx.toNat / 2 ^ (i % 8) < 256 := Nat.lt_of_le_of_lt (Nat.div_le_self _ _) sx.toNat_lt
      (refine go ?_)
      refine K_slot 12 (.bool (toldAt stay i)) rfl (congrArg Value.bool (by
        have := and_one_u8 _ hsb
        unfold toldAt
        rw [decide_eq_decide, List.getD_eq_getElem?_getD, hsx]
        show IntKind.u8.wrap _ = 1 ↔ _
        rw [this]
        simp only [Option.getD_some]
        omega)) ?_
    all_goals (
      generalize htd : toldAt stay i = told
      clear hs1
      (refine go ?_)
      refine K_condP rfl rfl ?_ ?_
      · intro htorn
        (refine go ?_)
        obtain ⟨c, hc⟩ : ∃ c : Nat, max 0 (min cut (by_.length : Int)) = c := Int.eq_ofNat_of_zero_le (by omega)
        have hcb : c ≤ by_.length := by omega
        refine J_sliceAny (U := tab) (p := 0) (q := max 0 (min cut (by_.length : Int))) rfl rfl rfl rfl rfl rfl rfl (Int.le_refl _) (by omega) (.inr (by omega)) ?_
        refine J_slot 73 (.slice (sliceAt ba bc 0 1) c bc) rfl (by simp only [hc]; rfl) ?_
        (refine go ?_)
        refine K_condP rfl rfl ?_ ?_
        · intro hc0
          have hc0' : c ≠ 0 := by intro e; subst e; simp at hc0
          have hk : Ab.kept stay torn cut i by_ = some (by_.take c) := by rw [kept_torn htorn hc, if_neg hc0']
          have hb' : BIn arrs1 (.slice (sliceAt ba bc 0 1) c bc) (by_.take c) := hb3.cut 0 c (by omega)
          have hbl : (by_.take c).length = c := by rw [List.length_take]; omega
          (obtain ⟨j, v1, v2, n, s, hj, hfj, hb1', hb2', hnl, hsl', hfind⟩ := hF.get hR.ids (hR.knownW _ (List.mem_of_getElem? hy)); have hwb := hR.smallW _ (List.mem_of_getElem? hy); simp only at hwb; have hnd1 : (fs1.map (·.1)).Nodup := (by rw [hF.ids]; exact hR.ids); have hwl2 := wroteL_len s ax (by_.take c); refine K_ent (Ent.pick [5] rfl) ?_; refine K_ent (stock_out fileG hj _) ?_; refine K_drawA (fun w => Sat G w ([pts bw1 (cl [ptr fx, .int .i64 ax, (.slice (sliceAt ba bc 0 1) c bc)] 119), pts fx (cl [v1, v2] 123)])) (.st 0 (.st 1 (.st 2 (.st 3 (.st 4 (.st 5 (.st 6 (.st 7 (.st 8 (.st 9 (.st 10 (.act 11 (.st 12 (.st 13 (.act 14 .nil))))))))))))))) rfl (by kernel_rfl) (by kernel_rfl) (by kernel_rfl) (fun w hw => hw.ent (Ent.pickOnly ([2, 0]) rfl)) ?_; (refine go ?_); refine J_call [6] rfl rfl rfl rfl (wrote_any (arrS 5 arrs1) v2 _ s (by_.take c) ax (hb2'.view _) (hb'.view _) (by omega)) rfl (fun _ _ w hp hw => by obtain ⟨_, _, _, _, rfl⟩ := hp; exact hw.ent (Ent.pickOnly [4, 2] rfl)) ?_; rintro _ _ ⟨bl, cap2, rfl, hcap2, rfl⟩; (refine go ?_); refine K_ent (Ent.pick [2, 3] rfl) ?_; refine K_ent (stock_set fileG (y := (fx, v1, .slice (some ⟨bl, 0, none⟩) (wroteL s ax (by_.take c)).length cap2)) hj _) ?_; refine K_ent (Ent.pick [1, 2] rfl) ?_; refine K_ent (arrS_add 5 bl _ arrs1 _) ?_; have hF2 := hF.put (arrs' := (bl, bV (wroteL s ax (by_.take c))) :: arrs1) (v1 := v1) (v2 := .slice (some ⟨bl, 0, none⟩) (wroteL s ax (by_.take c)).length cap2) (n := n) (s := wroteL s ax (by_.take c)) (fun x h => List.mem_cons_of_mem _ h) hfj (hb1'.mono fun x h => List.mem_cons_of_mem _ h) (BIn.row hcap2) ⟨hnl, by omega⟩; refine K_again ih (i + 1, _, _, _) rfl ⟨hi', hF2, by rw [← hL]; exact (lasts_some hy hnd1 hfj hk).symm⟩ (by show _ - (_ + 1) < _; omega) (by repeat (first | exact keep_nil | refine keep_cons rfl ?_)) (Ent.to [3, 4, 5, 0, 1, 6, 7] 1 rfl rfl rfl))
        · intro hc0
          have hc0' : c = 0 := by rcases Nat.eq_zero_or_pos c with h | h; exact h; exact absurd (by simp; exact h) hc0
          have hk : Ab.kept stay torn cut i by_ = none := by rw [kept_torn htorn hc, if_pos hc0']
          (refine go ?_)
          (refine K_again ih (i + 1, arrs1, files1, fs1) rfl ⟨hi', hF, by rw [← hL]; exact (lasts_none hy hk).symm⟩ (by show _ - (_ + 1) < _; omega) (by repeat (first | exact keep_nil | refine keep_cons rfl ?_)) (Ent.drop _ _))
      · intro htorn
        (refine go ?_)
        have hkk := kept_else (stay := stay) (cut := cut) (b := by_) htorn
        cases told with
        | false => 
          have hk : Ab.kept stay torn cut i by_ = none := by rw [hkk, htd]; rfl
          (refine go ?_)
          (refine K_again ih (i + 1, arrs1, files1, fs1) rfl ⟨hi', hF, by rw [← hL]; exact (lasts_none hy hk).symm⟩ (by show _ - (_ + 1) < _; omega) (by repeat (first | exact keep_nil | refine keep_cons rfl ?_)) (Ent.drop _ _))
        | true =>
          have hk : Ab.kept stay torn cut i by_ = some by_ := by rw [hkk, htd]; rfl
          have hb' : BIn arrs1 (.slice ba by_.length bc) by_ := hb3
          have hbl : by_.length = by_.length := rfl
          have hcb : by_.length ≤ by_.length := Nat.le_refl _
          (refine go ?_)
          (obtain ⟨j, v1, v2, n, s, hj, hfj, hb1', hb2', hnl, hsl', hfind⟩ := hF.get hR.ids (hR.knownW _ (List.mem_of_getElem? hy)); have hwb := hR.smallW _ (List.mem_of_getElem? hy); simp only at hwb; have hnd1 : (fs1.map (·.1)).Nodup := (by rw [hF.ids]; exact hR.ids); have hwl2 := wroteL_len s ax by_; refine K_ent (Ent.pick [5] rfl) ?_; refine K_ent (stock_out fileG hj _) ?_; refine K_drawA (fun w => Sat G w ([pts bw1 (cl [ptr fx, .int .i64 ax, (.slice ba by_.length bc)] 119), pts fx (cl [v1, v2] 123)])) (.st 0 (.st 1 (.st 2 (.st 3 (.st 4 (.st 5 (.st 6 (.st 7 (.st 8 (.st 9 (.st 10 (.act 11 (.st 12 (.st 13 (.act 14 .nil))))))))))))))) rfl (by kernel_rfl) (by kernel_rfl) (by kernel_rfl) (fun w hw => hw.ent (Ent.pickOnly ([2, 0]) rfl)) ?_; (refine go ?_); refine J_call [6] rfl rfl rfl rfl (wrote_any (arrS 5 arrs1) v2 _ s by_ ax (hb2'.view _) (hb'.view _) (by omega)) rfl (fun _ _ w hp hw => by obtain ⟨_, _, _, _, rfl⟩ := hp; exact hw.ent (Ent.pickOnly [4, 2] rfl)) ?_; rintro _ _ ⟨bl, cap2, rfl, hcap2, rfl⟩; (refine go ?_); refine K_ent (Ent.pick [2, 3] rfl) ?_; refine K_ent (stock_set fileG (y := (fx, v1, .slice (some ⟨bl, 0, none⟩) (wroteL s ax by_).length cap2)) hj _) ?_; refine K_ent (Ent.pick [1, 2] rfl) ?_; refine K_ent (arrS_add 5 bl _ arrs1 _) ?_; have hF2 := hF.put (arrs' := (bl, bV (wroteL s ax by_)) :: arrs1) (v1 := v1) (v2 := .slice (some ⟨bl, 0, none⟩) (wroteL s ax by_).length cap2) (n := n) (s := wroteL s ax by_) (fun x h => List.mem_cons_of_mem _ h) hfj (hb1'.mono fun x h => List.mem_cons_of_mem _ h) (BIn.row hcap2) ⟨hnl, by omega⟩; refine K_again ih (i + 1, _, _, _) rfl ⟨hi', hF2, by rw [← hL]; exact (lasts_some hy hnd1 hfj hk).symm⟩ (by show _ - (_ + 1) < _; omega) (by repeat (first | exact keep_nil | refine keep_cons rfl ?_)) (Ent.to [3, 4, 5, 0, 1, 6, 7] 1 rfl rfl rfl)))
  · intro hge
    simp only at hge
    have hiw : i = wl.length := by omega
    subst hiw
    have hfs1 : fs1 = Ab.lasts stay torn cut 0 A.writes A.fs := by rw [← hL, List.drop_of_length_le (by omega)]; rfl
    obtain ⟨nm, hnm, hbm⟩ := hR.states.left hb1
    have hall : All2 (fun b es => (b, ptrs es) ∈ maps) (stb ++ [b1]) (A.states ++ [nm]) := All2.snoc hR.states hbm
    refine K_drawA (fun w => Sat G w ([pts bd (cl [.int .i64 room, .map (some b1), .slice (some ⟨bs, os, none⟩) stb.length cs, .slice wa wl.length wc, pln, .bool off] 85)])) (.st 0 (.st 1 (.st 2 (.st 3 (.st 4 (.st 5 (.st 6 (.st 7 (.st 11 (.act 8 (.act 9 (.st 10 .nil)))))))))))) rfl (by kernel_rfl) (by kernel_rfl) (by kernel_rfl) (fun w hw => hw.ent (Ent.pickOnly ([1]) rfl)) ?_
    (refine go ?_)
    refine J_buildSlice1 (U := tab) rfl rfl rfl rfl rfl rfl rfl rfl rfl (fun _ w hw => hw.ent (Ent.pickOnly ([2]) rfl)) ?_
    intro b0
    refine J_append (U := tab) (mm := 1) (news := [.map (some b1)]) 6 0 rfl rfl rfl rfl rfl rfl rfl rfl rfl rfl rfl rfl (Vw.pts rfl) rfl (by simp [Value.oneCell']) (by omega) (by show _ * 8 ≤ _; omega) (fun _ => rfl) (fun _ w hw => hw.ent (Ent.pickOnly ([2]) rfl)) ?_
    intro v'
    have e1 : (stb.map fun b => Value.map (some b)) ++ [.map (some b1)] = (stb ++ [b1]).map fun b => Value.map (some b) := by simp
    have e2 : stb.length + 1 = (stb ++ [b1]).length := by simp
    have e3 : (stb ++ [b1]).length ≤ 1000000001 := by rw [← e2]; omega
    rw [e1, e2]
    refine J_shape 6 rfl ?_
    rintro av cv rfl
    (refine go ?_)
    refine K_loop (fun s : Nat × List (Nat × Value × Value) × List Nat => s.1 ≤ (stb ++ [b1]).length ∧ FilesAre arrs arrs1 s.2.1 (mark s.2.2 fs1) (A.fs.map (·.1)) ∧ ∀ x, x ∈ s.2.2 ↔ x ∈ Ab.reach ((A.states ++ [nm]).take s.1)) (fun s => (stb ++ [b1]).length - s.1)
      (fun s => [(0, ptr bd), (104, .slice av (stb ++ [b1]).length cv), (105, .int .i64 (stb ++ [b1]).length), (106, .int .i64 s.1)])
      (fun s => slc 81 1 (.slice av (stb ++ [b1]).length cv) (stb ++ [b1]).length ((stb ++ [b1]).map fun b => .map (some b)) :: pts bd (cl [.int .i64 room, .map (some b1), .slice (some ⟨bs, os, none⟩) stb.length cs, .slice wa wl.length wc, pln, .bool off] 85) :: stock mapG maps :: arrS 5 arrs1 :: stock fileG s.2.1 :: X :: F)
      (0, files1, []) ⟨Nat.zero_le _, by rw [mark_nil]; exact hF, by simp [Ab.reach]⟩ rfl (by repeat (first | exact keep_nil | refine keep_cons rfl ?_)) (Ent.to [6, 2, 3, 4, 5, 7] 2 rfl rfl rfl) ?_
    rintro ⟨i, files2, S⟩ ⟨hi2, hF2, hS2⟩ ih2
    simp only at hi2 hF2 hS2
    (refine go ?_)
    refine K_condP rfl rfl ?_ ?_
    · intro hlt
      simp only at hlt
      have hlt' : i < (stb ++ [b1]).length := by omega
      obtain ⟨bi, hbi⟩ : ∃ x, (stb ++ [b1])[i]? = some x := ⟨(stb ++ [b1])[i], by rw [List.getElem?_eq_getElem]⟩
      obtain ⟨es, hes, hm⟩ := hall.left hbi
      have hesm : es ∈ A.names :: A.states := by
        rcases List.mem_append.1 (List.mem_of_getElem? hes) with h | h
        · exact List.mem_cons_of_mem _ h
        · simp only [List.mem_singleton] at h; subst h; exact List.mem_cons_of_mem _ (List.mem_of_getElem? hnm)
      (refine go ?_)
      refine J_slcAt 0 rfl (by omega) ?_
      rintro bn on cn hs3 hvn
      simp only [Value.slice.injEq, true_and] at hs3
      obtain ⟨rfl, rfl⟩ := hs3
      refine J_at1 (U := tab) i rfl rfl rfl rfl rfl rfl rfl rfl hlt' ?_
      refine J_loadAt (U := tab) 0 i rfl rfl rfl hvn rfl (c := .map (some bi)) (by simp only [List.getElem?_map, hbi, Option.map_some]) rfl rfl ?_
      (refine go ?_)
      obtain ⟨jm, hjm⟩ := List.getElem?_of_mem hm
      refine J_ent (Ent.pick [2] rfl) ?_
      refine J_ent (stock_out mapG hjm _) ?_
      refine J_range (kv := Value.string) (es := ptrs es) (U := tab) 0 rfl rfl rfl rfl rfl (fun _ => rfl) (fun _ _ _ => trivial) ?_
      intro it
      (refine go ?_)
      have hndk := hR.nodup _ hesm
      have hkeys : (ptrs es).map (·.1) = es.map (·.1) := by simp [ptrs, Function.comp_def]
      refine K_loop (fun s : List ByteArray × List (Nat × Value × Value) × List Nat => (s.1.Nodup ∧ ∀ x ∈ s.1, x ∈ es.map (·.1)) ∧ FilesAre arrs arrs1 s.2.1 (mark s.2.2 fs1) (A.fs.map (·.1)) ∧ ∀ x, x ∈ s.2.2 ↔ x ∈ S ∨ ∃ k ∈ s.1, (k, x) ∈ es) (fun s => es.length - s.1.length)
        (fun s => [(111, .pointer (some ⟨it, 0, none⟩)), (0, ptr bd), (104, .slice (some ⟨bn, on, none⟩) (stb ++ [b1]).length cv), (105, .int .i64 (stb ++ [b1]).length), (106, .int .i64 i)])
        (fun s => mapI Value.string bi it (ptrs es) s.1 :: stock mapG (maps.eraseIdx jm) :: slc 81 1 (.slice (some ⟨bn, on, none⟩) (stb ++ [b1]).length cv) (stb ++ [b1]).length ((stb ++ [b1]).map fun b => .map (some b)) :: pts bd (cl [.int .i64 room, .map (some b1), .slice (some ⟨bs, os, none⟩) stb.length cs, .slice wa wl.length wc, pln, .bool off] 85) :: arrS 5 arrs1 :: stock fileG s.2.1 :: X :: F)
        ([], files2, S) ⟨⟨List.nodup_nil, by simp⟩, hF2, by simp⟩ rfl (by repeat (first | exact keep_nil | refine keep_cons rfl ?_)) (Ent.refl _) ?_
      rintro ⟨dn, files3, S3⟩ ⟨⟨hdn, hsubk⟩, hF3, hS3⟩ ih3
      simp only at hdn hsubk hF3 hS3
      (refine go ?_)
      refine J_next (kv := Value.string) (es := ptrs es) 0 rfl kStr.inj rfl rfl (fun _ => rfl) (fun _ _ => trivial) (fun _ _ _ => trivial) ?_ ?_
      · intro hallk
        (refine go ?_)
        refine K_ent ((Ent.head (B := [mapG (bi, ptrs es)]) (fun h hs => by obtain ⟨h', s, hm⟩ := mapI_mapR h hs; exact ⟨h', s, Sep_one' hm⟩)).trans (stock_in mapG hjm _)) ?_
        have hS4 : ∀ x, x ∈ S3 ↔ x ∈ Ab.reach ((A.states ++ [nm]).take (i + 1)) := by
          intro x
          rw [hS3 x, hS2 x, List.take_add_one, hes]
          simp only [Ab.reach, Option.toList_some, List.flatMap_append, List.flatMap_cons, List.flatMap_nil, List.append_nil, List.mem_append]
          apply or_congr Iff.rfl
          constructor
          · rintro ⟨k, _, hk⟩; exact List.mem_map.2 ⟨_, hk, rfl⟩
          · intro hx
            obtain ⟨⟨k, x'⟩, hk, rfl⟩ := List.mem_map.1 hx
            exact ⟨k, hallk (k, ptr x') (List.mem_map.2 ⟨_, hk, rfl⟩), hk⟩
        (refine go ?_)
        have ih := ih2
        refine K_again ih (i + 1, files3, S3) rfl ⟨hlt', hF3, hS4⟩ (by show _ - (_ + 1) < _; omega) (by repeat (first | exact keep_nil | refine keep_cons rfl ?_)) (Ent.to [1, 2, 0, 3, 4, 5] 0 rfl rfl rfl)
      · intro key v hmem hnot
        obtain ⟨⟨k', f⟩, hx, hxe⟩ := List.mem_map.1 hmem
        simp only [Prod.mk.injEq] at hxe
        obtain ⟨rfl, rfl⟩ := hxe
        (refine go ?_)
        refine J_entry (kv := Value.string) (es := ptrs es) 0 rfl kStr.inj rfl rfl hmem ?_
        (refine go ?_)
        obtain ⟨j, v1, v2, n, s, hj, hfj, hb1', hb2', hnl, hsl', hfind⟩ := hF3.get hR.ids (hR.known _ hesm _ hx)
        obtain ⟨a2, c2, rfl, _⟩ := hb2'.shape
        refine J_ent (Ent.pick [5] rfl) ?_
        refine J_ent (stock_out fileG hj _) ?_
        (refine go ?_)
        refine K_ent (stock_set fileG (y := (f, .slice a2 s.length c2, .slice a2 s.length c2)) hj _) ?_
        have hF4 := hF3.put (v1 := .slice a2 s.length c2) (v2 := .slice a2 s.length c2) (n := s) (s := s) (fun _ h => h) hfj hb2' hb2' ⟨hsl', hsl'⟩
        rw [mark_set (by rw [hF.ids]; exact hR.ids) hfj] at hF4
        have hmk : k' ∈ es.map (·.1) := List.mem_map.2 ⟨_, hx, rfl⟩
        have hd2 : (k' :: dn).Nodup := List.nodup_cons.2 ⟨hnot, hdn⟩
        have hs2 : ∀ x ∈ k' :: dn, x ∈ es.map (·.1) := fun x hx => by
          rcases List.mem_cons.1 hx with rfl | h
          · exact hmk
          · exact hsubk x h
        have hlen2 := nodup_len hd2 hs2
        rw [List.length_map, List.length_cons] at hlen2
        have hS4 : ∀ x, x ∈ f :: S3 ↔ x ∈ S ∨ ∃ k ∈ k' :: dn, (k, x) ∈ es := by
          intro x
          rw [List.mem_cons, hS3 x]
          constructor
          · rintro (rfl | h | ⟨k, hk, hkx⟩)
            · exact .inr ⟨k', List.mem_cons_self .., hx⟩
            · exact .inl h
            · exact .inr ⟨k, List.mem_cons_of_mem _ hk, hkx⟩
          · rintro (h | ⟨k, hk, hkx⟩)
            · exact .inr (.inl h)
            · rcases List.mem_cons.1 hk with rfl | hk
              · left
                have h1 := lookIn_mem hndk hx
                rw [lookIn_mem hndk hkx] at h1
                simpa using h1
              · exact .inr (.inr ⟨k, hk, hkx⟩)
        have ih := ih3
        refine K_again ih (k' :: dn, _, f :: S3) rfl ⟨⟨hd2, hs2⟩, hF4, hS4⟩ (by simp only [List.length_cons]; omega) (by repeat (first | exact keep_nil | refine keep_cons rfl ?_)) (Ent.to [1, 2, 3, 4, 5, 0, 6] 0 rfl rfl rfl)
    · intro hge2
      simp only at hge2
      have hie : i = (stb ++ [b1]).length := by omega
      subst hie
      rw [hall.1, List.take_length] at hS2
      rw [mark_ext fs1 hS2, hfs1] at hF2
      (refine go ?_)
      refine J_buildSlice1 (U := tab) rfl rfl rfl rfl rfl rfl rfl rfl rfl (fun _ _ _ => trivial) ?_
      intro b2
      (refine go ?_)
      refine K_ent (slc_row 81 1 b2 1 1 [.map (some b1)] [] _ rfl (Nat.le_refl _) (by simp)) ?_
      refine K_ent (slc_lift 119 3 none _) ?_
      refine K_ent (Ent.pick [3, 4, 5, 6, 1, 0, 7] rfl) ?_
      refine K_ent (disk_c bd room b1 (.slice (some ⟨b2, 0, none⟩) 1 1) (.slice none 0 0) (.slice none 0 0) false maps arrs1 files2 [b1] [] _) ?_
      have hR2 := hR.crashed (b0 := b2) rfl rfl (by rw [← hlen]; exact hq) hnm hbm hF2
      refine K_fallEnd hE Tryz.func33 rfl _ rfl ⟨_, hR2, rfl⟩ (Ent.fin [0, 1] 1 rfl rfl)
end Go.Proofs.YtpecmnaikjbanaaGreatDoor

/- files, part r: Rename. -/
set_option linter.unusedVariables false
set_option linter.unusedSimpArgs false
namespace Go.Proofs.YtpecmnaikjbanaaGreatDoor
open Go Go.SL
attribute [local irreducible] J K Ctr Ends pts slc mapR mapI sbRow stock arrS

theorem Rename_any (bd : Nat) (D : Dk) (A : Ab) (hR : Rel D A) (old name : ByteArray) (hst : A.states.length ≤ 1000000000) :
    Ctr Tryz.prog 110 [ptr bd, .string old, .string name] [disk bd D]
      (fun v H => ∃ D', Rel D' (A.rename ([old, name].all isName) old name).2 ∧ H = [disk bd D'] ∧ v = .int .i64 (A.rename ([old, name].all isName) old name).1) := by
  refine Ctr.enter Tryz.func110 (by kernel_rfl) rfl Tryz.ntmps110 rfl rfl ?_
  intro G F R hE
  (refine go ?_)
  refine J_box rfl rfl (fun _ _ _ => trivial) ?_
  intro box1
  refine J_box rfl rfl (fun _ _ _ => trivial) ?_
  intro box2
  (refine go ?_)
  cases hfo : (A.find old ([old, name].all isName)).2.1 with
  | none =>
    refine K_drawA (fun w => Sat G w ([pts box2 (cl [.string name] 9), pts box1 (cl [.string old] 9)])) (.st 0 (.st 1 (.st 2 (.st 3 (.fork (.act 4 (.fork (.act 5 (.fork (.act 6 (.st 7 (.st 8 (.st 9 (.act 10 (.act 11 (.st 12 .nil))))))) (.act 10 (.act 6 (.st 7 (.st 8 (.st 9 (.act 11 (.st 12 .nil))))))))) (.act 10 (.act 5 (.act 6 (.st 7 (.st 8 (.st 9 (.act 11 (.st 12 .nil)))))))))) (.act 10 (.act 4 (.act 5 (.act 6 (.st 7 (.st 8 (.st 9 (.act 11 (.st 12 .nil)))))))))))))) rfl (by kernel_rfl) (by kernel_rfl) (by kernel_rfl) (fun w hw => hw.ent (Ent.pickOnly ([0, 1]) rfl)) ?_
    repeat' (first | (with_reducible intro _hh) | refine go1 ?_ | refine J_fork ?_ ?_ | refine J_gsP rfl rfl rfl rfl ?_ ?_ | refine K_condP rfl rfl ?_ ?_ | (refine J_buildSlice1 (U := tab) rfl rfl rfl rfl rfl rfl rfl rfl rfl (fun _ w hw => hw.ent (by first | exact Ent.pickOnly [0, 1] rfl | exact Ent.pickOnly [1, 2] rfl | exact Ent.pickOnly [2, 3] rfl | exact Ent.pickOnly [3, 4] rfl)) ?_; intro _) | (refine J_alloc (U := tab) rfl rfl rfl (fun _ w hw => hw.ent (by first | exact Ent.pickOnly [0, 1] rfl | exact Ent.pickOnly [1, 2] rfl | exact Ent.pickOnly [2, 3] rfl | exact Ent.pickOnly [3, 4] rfl)) ?_; intro _) | (refine J_call [0] rfl rfl rfl rfl (right_any _ _ [old, name] (Vw.pts rfl) (by simp)) rfl (fun _ _ w hp hw => by obtain ⟨_, rfl⟩ := hp; exact (fun _ w hw => hw.ent (by first | exact Ent.pickOnly [0, 1] rfl | exact Ent.pickOnly [1, 2] rfl | exact Ent.pickOnly [2, 3] rfl | exact Ent.pickOnly [3, 4] rfl)) 0 w hw) ?_; rintro _ _ ⟨rfl, rfl⟩) | (refine J_call [1] rfl rfl rfl rfl (right_any _ _ [old, name] (Vw.pts rfl) (by simp)) rfl (fun _ _ w hp hw => by obtain ⟨_, rfl⟩ := hp; exact (fun _ w hw => hw.ent (by first | exact Ent.pickOnly [0, 1] rfl | exact Ent.pickOnly [1, 2] rfl | exact Ent.pickOnly [2, 3] rfl | exact Ent.pickOnly [3, 4] rfl)) 0 w hw) ?_; rintro _ _ ⟨rfl, rfl⟩) | (refine J_call [3] rfl rfl rfl rfl (find_any bd D A hR old ([old, name].all isName)) rfl (fun _ _ w hp hw => by obtain ⟨_, _, rfl, _⟩ := hp; exact (fun _ w hw => hw.ent (by first | exact Ent.pickOnly [0, 1] rfl | exact Ent.pickOnly [1, 2] rfl | exact Ent.pickOnly [2, 3] rfl | exact Ent.pickOnly [3, 4] rfl)) 0 w hw) ?_; rintro _ _ ⟨D', hR', rfl, rfl⟩; rw [hfo]) | (refine J_call [4] rfl rfl rfl rfl (find_any bd D A hR old ([old, name].all isName)) rfl (fun _ _ w hp hw => by obtain ⟨_, _, rfl, _⟩ := hp; exact (fun _ w hw => hw.ent (by first | exact Ent.pickOnly [0, 1] rfl | exact Ent.pickOnly [1, 2] rfl | exact Ent.pickOnly [2, 3] rfl | exact Ent.pickOnly [3, 4] rfl)) 0 w hw) ?_; rintro _ _ ⟨D', hR', rfl, rfl⟩; rw [hfo]) | (refine J_isStore ?_; first | refine J_store (U := tab) 0 (fun w hw => (fun _ w hw => hw.ent (by first | exact Ent.pickOnly [0, 1] rfl | exact Ent.pickOnly [1, 2] rfl | exact Ent.pickOnly [2, 3] rfl | exact Ent.pickOnly [3, 4] rfl)) 0 w hw) rfl rfl rfl rfl rfl rfl rfl rfl rfl ?_ | refine J_store (U := tab) 1 (fun w hw => (fun _ w hw => hw.ent (by first | exact Ent.pickOnly [0, 1] rfl | exact Ent.pickOnly [1, 2] rfl | exact Ent.pickOnly [2, 3] rfl | exact Ent.pickOnly [3, 4] rfl)) 0 w hw) rfl rfl rfl rfl rfl rfl rfl rfl rfl ?_ | refine J_store (U := tab) 2 (fun w hw => (fun _ w hw => hw.ent (by first | exact Ent.pickOnly [0, 1] rfl | exact Ent.pickOnly [1, 2] rfl | exact Ent.pickOnly [2, 3] rfl | exact Ent.pickOnly [3, 4] rfl)) 0 w hw) rfl rfl rfl rfl rfl rfl rfl rfl rfl ?_))
    all_goals (
      have h0' : ¬ (A.find old ([old, name].all isName)).1 = 0 := fun h => by obtain ⟨_, fl, h1, _⟩ := find_parts h; rw [hfo] at h1; cases h1
      have hw : A.rename ([old, name].all isName) old name = ((A.find old ([old, name].all isName)).1, (A.find old ([old, name].all isName)).2.2) := by
        unfold Ab.rename
        generalize A.find old ([old, name].all isName) = z at h0' hfo ⊢
        obtain ⟨e, fo, A1⟩ := z
        simp only at hfo
        subst hfo
        cases e <;> rfl
      rw [hw] at hE
      first
      | (exfalso; omega)
      | refine K_return hE Tryz.func110 rfl _ rfl ⟨D', hR', rfl, rfl⟩ (Ent.fin [0] 4 rfl rfl)
      | refine K_return hE Tryz.func110 rfl _ rfl ⟨D', hR', rfl, rfl⟩ (Ent.fin [1] 4 rfl rfl))
  | some fl =>
    refine K_drawA (fun w => Sat G w ([pts box2 (cl [.string name] 9), pts box1 (cl [.string old] 9)])) (.st 0 (.st 1 (.st 2 (.st 3 (.fork (.act 4 (.fork (.act 5 (.fork (.act 6 (.st 7 (.st 8 (.st 9 (.act 10 (.act 11 (.st 12 .nil))))))) (.act 10 (.act 6 (.st 7 (.st 8 (.st 9 (.act 11 (.st 12 .nil))))))))) (.act 10 (.act 5 (.act 6 (.st 7 (.st 8 (.st 9 (.act 11 (.st 12 .nil)))))))))) (.act 10 (.act 4 (.act 5 (.act 6 (.st 7 (.st 8 (.st 9 (.act 11 (.st 12 .nil)))))))))))))) rfl (by kernel_rfl) (by kernel_rfl) (by kernel_rfl) (fun w hw => hw.ent (Ent.pickOnly ([0, 1]) rfl)) ?_
    repeat' (first | (with_reducible intro _hh) | refine go1 ?_ | refine J_fork ?_ ?_ | refine J_gsP rfl rfl rfl rfl ?_ ?_ | refine K_condP rfl rfl ?_ ?_ | (refine J_buildSlice1 (U := tab) rfl rfl rfl rfl rfl rfl rfl rfl rfl (fun _ w hw => hw.ent (by first | exact Ent.pickOnly [0, 1] rfl | exact Ent.pickOnly [1, 2] rfl | exact Ent.pickOnly [2, 3] rfl | exact Ent.pickOnly [3, 4] rfl)) ?_; intro _) | (refine J_alloc (U := tab) rfl rfl rfl (fun _ w hw => hw.ent (by first | exact Ent.pickOnly [0, 1] rfl | exact Ent.pickOnly [1, 2] rfl | exact Ent.pickOnly [2, 3] rfl | exact Ent.pickOnly [3, 4] rfl)) ?_; intro _) | (refine J_call [0] rfl rfl rfl rfl (right_any _ _ [old, name] (Vw.pts rfl) (by simp)) rfl (fun _ _ w hp hw => by obtain ⟨_, rfl⟩ := hp; exact (fun _ w hw => hw.ent (by first | exact Ent.pickOnly [0, 1] rfl | exact Ent.pickOnly [1, 2] rfl | exact Ent.pickOnly [2, 3] rfl | exact Ent.pickOnly [3, 4] rfl)) 0 w hw) ?_; rintro _ _ ⟨rfl, rfl⟩) | (refine J_call [1] rfl rfl rfl rfl (right_any _ _ [old, name] (Vw.pts rfl) (by simp)) rfl (fun _ _ w hp hw => by obtain ⟨_, rfl⟩ := hp; exact (fun _ w hw => hw.ent (by first | exact Ent.pickOnly [0, 1] rfl | exact Ent.pickOnly [1, 2] rfl | exact Ent.pickOnly [2, 3] rfl | exact Ent.pickOnly [3, 4] rfl)) 0 w hw) ?_; rintro _ _ ⟨rfl, rfl⟩) | (refine J_call [3] rfl rfl rfl rfl (find_any bd D A hR old ([old, name].all isName)) rfl (fun _ _ w hp hw => by obtain ⟨_, _, rfl, _⟩ := hp; exact (fun _ w hw => hw.ent (by first | exact Ent.pickOnly [0, 1] rfl | exact Ent.pickOnly [1, 2] rfl | exact Ent.pickOnly [2, 3] rfl | exact Ent.pickOnly [3, 4] rfl)) 0 w hw) ?_; rintro _ _ ⟨D', hR', rfl, rfl⟩; rw [hfo]) | (refine J_call [4] rfl rfl rfl rfl (find_any bd D A hR old ([old, name].all isName)) rfl (fun _ _ w hp hw => by obtain ⟨_, _, rfl, _⟩ := hp; exact (fun _ w hw => hw.ent (by first | exact Ent.pickOnly [0, 1] rfl | exact Ent.pickOnly [1, 2] rfl | exact Ent.pickOnly [2, 3] rfl | exact Ent.pickOnly [3, 4] rfl)) 0 w hw) ?_; rintro _ _ ⟨D', hR', rfl, rfl⟩; rw [hfo]) | (refine J_isStore ?_; first | refine J_store (U := tab) 0 (fun w hw => (fun _ w hw => hw.ent (by first | exact Ent.pickOnly [0, 1] rfl | exact Ent.pickOnly [1, 2] rfl | exact Ent.pickOnly [2, 3] rfl | exact Ent.pickOnly [3, 4] rfl)) 0 w hw) rfl rfl rfl rfl rfl rfl rfl rfl rfl ?_ | refine J_store (U := tab) 1 (fun w hw => (fun _ w hw => hw.ent (by first | exact Ent.pickOnly [0, 1] rfl | exact Ent.pickOnly [1, 2] rfl | exact Ent.pickOnly [2, 3] rfl | exact Ent.pickOnly [3, 4] rfl)) 0 w hw) rfl rfl rfl rfl rfl rfl rfl rfl rfl ?_ | refine J_store (U := tab) 2 (fun w hw => (fun _ w hw => hw.ent (by first | exact Ent.pickOnly [0, 1] rfl | exact Ent.pickOnly [1, 2] rfl | exact Ent.pickOnly [2, 3] rfl | exact Ent.pickOnly [3, 4] rfl)) 0 w hw) rfl rfl rfl rfl rfl rfl rfl rfl rfl ?_))
    all_goals (
      have h0' : (A.find old ([old, name].all isName)).1 = 0 := by
        rcases Nat.eq_zero_or_pos (A.find old ([old, name].all isName)).1 with h | h
        · exact h
        · exfalso
          unfold Ab.find at hfo h
          split at hfo
          · rename_i h1
            rw [if_pos h1] at h
            cases hl : (A.meet ([old, name].all isName)).2.look old with
            | none => rw [hl] at hfo; cases hfo
            | some f => rw [hl] at h; simp at h
          · cases hfo)
    any_goals (exfalso; omega)
    all_goals (
      obtain ⟨_, fl', hfl', hmem⟩ := find_parts h0'
      rw [hfo] at hfl'
      cases hfl'
      have hw : A.rename ([old, name].all isName) old name = (0, (A.find old ([old, name].all isName)).2.2.chg (Ab.setN (Ab.delN (A.find old ([old, name].all isName)).2.2.names old) name fl)) := by
        unfold Ab.rename
        generalize A.find old ([old, name].all isName) = z at h0' hfo ⊢
        obtain ⟨e, fo, A1⟩ := z
        simp only at h0' hfo
        subst h0' hfo
        rfl
      rw [hw] at hE
      have hst' : (A.find old ([old, name].all isName)).2.2.states.length ≤ 1000000000 := by rw [(find_same A old _).2.2.1]; exact hst
      generalize (A.find old ([old, name].all isName)).2.2 = A1 at *
      have hst2 : D'.stb.length ≤ 1000000000 := by rw [hR'.states.1]; exact hst'
      have hN := hR'.smallN _ (List.mem_cons_self ..)
      have hlt := delN_lt hmem
      have hln := setN_len (Ab.delN A1.names old) name fl
      have hchg : ∀ b' v, Rel { D' with bm := b', maps := (b', ptrs (Ab.setN (Ab.delN A1.names old) name fl)) :: D'.maps, sts := v, stb := D'.stb ++ [b'] } (A1.chg (Ab.setN (Ab.delN A1.names old) name fl)) := fun b' v => hR'.chg
        (fun x hx => by
          rcases setN_mem hx with rfl | hx
          · have := hR'.known _ (List.mem_cons_self ..) _ hmem; exact this
          · exact hR'.known _ (List.mem_cons_self ..) _ (delN_sub hx).1)
        (setN_nodup (delN_nodup (hR'.nodup _ (List.mem_cons_self ..)) old) name fl) (by omega)
      first
      | (refine J_ent (Ent.pick ([4, 0, 3, 1]) rfl) ?_; refine J_ent (Ent.resep [_, _, _] _) ?_; refine J_call [1, 0] rfl rfl rfl rfl (change_any (α := Unit) bd D' A1.names hR'.names 147 #[ptr box1, ptr _, ptr box2] _ (fun _ => Ab.setN (Ab.delN A1.names old) name fl) (fun _ => emp) (fun _ => True) (fun b' => Ctr.post (Rename1_any b' box1 _ box2 fl A1.names old name) (fun v H h => ⟨(), trivial, h⟩)) hst2) rfl (fun _ _ _ _ _ => trivial) ?_; rintro _ _ ⟨_, b', v, _, rfl⟩; (refine go ?_); refine K_return hE Tryz.func110 rfl _ rfl ⟨_, hchg b' v, rfl, rfl⟩ (Ent.fin [0] 2 rfl rfl))
      | (refine J_ent (Ent.pick ([4, 1, 3, 0]) rfl) ?_; refine J_ent (Ent.resep [_, _, _] _) ?_; refine J_call [1, 0] rfl rfl rfl rfl (change_any (α := Unit) bd D' A1.names hR'.names 147 #[ptr box1, ptr _, ptr box2] _ (fun _ => Ab.setN (Ab.delN A1.names old) name fl) (fun _ => emp) (fun _ => True) (fun b' => Ctr.post (Rename1_any b' box1 _ box2 fl A1.names old name) (fun v H h => ⟨(), trivial, h⟩)) hst2) rfl (fun _ _ _ _ _ => trivial) ?_; rintro _ _ ⟨_, b', v, _, rfl⟩; (refine go ?_); refine K_return hE Tryz.func110 rfl _ rfl ⟨_, hchg b' v, rfl, rfl⟩ (Ent.fin [0] 2 rfl rfl))
      | (refine J_ent (Ent.pick ([4, 2, 3, 0]) rfl) ?_; refine J_ent (Ent.resep [_, _, _] _) ?_; refine J_call [1, 0] rfl rfl rfl rfl (change_any (α := Unit) bd D' A1.names hR'.names 147 #[ptr box1, ptr _, ptr box2] _ (fun _ => Ab.setN (Ab.delN A1.names old) name fl) (fun _ => emp) (fun _ => True) (fun b' => Ctr.post (Rename1_any b' box1 _ box2 fl A1.names old name) (fun v H h => ⟨(), trivial, h⟩)) hst2) rfl (fun _ _ _ _ _ => trivial) ?_; rintro _ _ ⟨_, b', v, _, rfl⟩; (refine go ?_); refine K_return hE Tryz.func110 rfl _ rfl ⟨_, hchg b' v, rfl, rfl⟩ (Ent.fin [0] 2 rfl rfl)))
end Go.Proofs.YtpecmnaikjbanaaGreatDoor

/- Engine, part K: rows of any cells that nobody writes any more. Nothing here names a program. -/
set_option linter.unusedVariables false
set_option linter.unusedSimpArgs false
namespace Go.SL
/-- The slice v holds the cells cs, n elements of s cells, in one of these rows. -/
def RIn (M : Arrs) (s : Nat) (v : Value) (n : Nat) (cs : List Value) : Prop :=
  cs.length = n * s ∧ ∃ a cap, v = .slice a n cap ∧ n ≤ cap ∧ (n = 0 ∨ ∃ b o row, a = Option.some ⟨b, o, none⟩ ∧ (b, row) ∈ M ∧ (row.drop o).take cs.length = cs)
theorem RIn.mono {M M' : Arrs} {s n : Nat} {v : Value} {cs : List Value} (h : RIn M s v n cs) (hs : ∀ x ∈ M, x ∈ M') : RIn M' s v n cs := by
  obtain ⟨hl, a, cap, hv, hc, h0 | ⟨b, o, row, ha, hm, ht⟩⟩ := h
  · exact ⟨hl, a, cap, hv, hc, .inl h0⟩
  · exact ⟨hl, a, cap, hv, hc, .inr ⟨b, o, row, ha, hs _ hm, ht⟩⟩
theorem RIn.nil (M : Arrs) (s : Nat) (a : Option Addr) (cap : Nat) : RIn M s (.slice a 0 cap) 0 [] := ⟨by simp, a, cap, rfl, Nat.zero_le _, .inl rfl⟩
theorem RIn.shape {M : Arrs} {s n : Nat} {v : Value} {cs : List Value} (h : RIn M s v n cs) : ∃ a cap, v = .slice a n cap ∧ n ≤ cap := by
  obtain ⟨_, a, cap, hv, hc, _⟩ := h; exact ⟨a, cap, hv, hc⟩
theorem RIn.view {M : Arrs} {s n : Nat} {v : Value} {cs : List Value} (h : RIn M s v n cs) (e : TypeId) : Vw (arrS e M) v n cs := by
  obtain ⟨hl, a, cap, rfl, hc, h0 | ⟨b, o, row, ha, hm, ht⟩⟩ := h
  · have : cs = [] := List.eq_nil_of_length_eq_zero (by rw [hl, h0, Nat.zero_mul])
    subst h0 this; exact ⟨a, cap, rfl, .inl rfl⟩
  · have h1 : Vw (pts b (cl row e)) (.slice a n cap) n cs := by rw [ha]; exact Vw.pts ht
    exact h1.mono fun h hs => Sep_mem (List.mem_map.2 ⟨(b, row), hm, rfl⟩) hs
/-- A slice of its own becomes one of these. -/
theorem row_slcO (e : TypeId) (s n : Nat) (v : Value) (cs : List Value) (M : Arrs) : ∀ h, star (slc e s v n cs) (arrS e M) h → ∃ M', (RIn M' s v n cs ∧ ∀ x ∈ M, x ∈ M') ∧ Sep [arrS e M'] h := by
  rintro h ⟨h1, h2, ⟨hl, ⟨a, rfl, hn, he⟩ | ⟨b, o, cap, pre, junk, rfl, hp, hn, hc, hpt⟩⟩, hM, hd, hj⟩
  · have : cs = [] := List.eq_nil_of_length_eq_zero (by rw [hl, hn, Nat.zero_mul])
    subst hn this
    exact ⟨M, ⟨RIn.nil M s a 0, fun _ h => h⟩, Sep_one' (emp_star ⟨h1, h2, he, hM, hd, hj⟩)⟩
  · refine ⟨(b, pre ++ cs ++ junk) :: M, ⟨⟨hl, _, cap, rfl, hn, .inr ⟨b, o, pre ++ cs ++ junk, rfl, by simp, ?_⟩⟩, fun x hx => by simp [hx]⟩, Sep_one' ⟨h1, h2, hpt, hM, hd, hj⟩⟩
    subst hp
    rw [List.append_assoc, List.drop_left, List.take_left]
/-- A contract over heaps that say the same. -/
theorem Ctr.conv {P : Program} {f : FuncId} {args : List Value} {Pre Pre' : List HP} {Post Post' : Value → List HP → Prop} (c : Ctr P f args Pre Post) (h : Ent Pre' Pre) (hp : ∀ v H, Post v H → ∃ H', Post' v H' ∧ Ent H H') : Ctr P f args Pre' Post' :=
  ⟨c.1, fun G w F hw => (c.2 G w F (hw.ent (Ent.append F h))).mono fun e w' h' => let ⟨v, H, he, hpo, hs⟩ := h'; let ⟨H', hq, hE⟩ := hp v H hpo; ⟨v, H', he, hq, hs.ent (Ent.append F hE)⟩⟩
theorem Ctr.frame {P : Program} {f : FuncId} {args : List Value} {Pre : List HP} {Post : Value → List HP → Prop} (X : List HP) (c : Ctr P f args Pre Post) : Ctr P f args (Pre ++ X) (fun v H => ∃ H', Post v H' ∧ H = H' ++ X) :=
  ⟨c.1, fun G w F hw => (c.2 G w (X ++ F) (by rw [List.append_assoc] at hw; exact hw)).mono fun e w' h' => let ⟨v, H, he, hpo, hs⟩ := h'; ⟨v, H ++ X, he, ⟨H, hpo, rfl⟩, by rw [List.append_assoc]; exact hs⟩⟩
theorem Ctr.frame1 {P : Program} {f : FuncId} {args : List Value} {v : Value} (X : HP) (c : Ctr P f args [] (fun r H => r = v ∧ H = [])) : Ctr P f args [X] (fun r H => r = v ∧ H = [X]) :=
  Ctr.post (Ctr.frame [X] c) (by rintro r H ⟨H', ⟨rfl, rfl⟩, rfl⟩; exact ⟨rfl, rfl⟩)
end Go.SL

/- the disk as it is known, without its inner parts; steps; how a disk's lists grow. -/
set_option linter.unusedVariables false
set_option linter.unusedSimpArgs false
namespace Go.Proofs.YtpecmnaikjbanaaGreatDoor
open Go Go.SL
/-- Steps, as long as they are OK. -/
def Runs {σ : Type} : List (σ → Nat → σ → Prop) → σ → Nat → σ → Prop
  | [], x, e, y => e = 0 ∧ y = x
  | s :: ss, x, e, y => ∃ e1 x1, s x e1 x1 ∧ ((e1 ≠ 0 ∧ e = e1 ∧ y = x1) ∨ (e1 = 0 ∧ Runs ss x1 e y))
end Go.Proofs.YtpecmnaikjbanaaGreatDoor
namespace Go.Proofs.YtpecmnaikjbanaaGreatDoor
open Go Go.SL
attribute [local irreducible] J K Ctr Ends pts slc mapR mapI sbRow stock arrS

def diskA (bd : Nat) (A : Ab) : HP := fun h => ∃ D, Rel D A ∧ disk bd D h
theorem diskA_in {bd : Nat} {D : Dk} {A : Ab} (h : Rel D A) (H : List HP) : Ent (disk bd D :: H) (diskA bd A :: H) := Ent.fold (B := [_]) fun h' hs => ⟨h', sub.refl h', D, h, Sep_one hs⟩
theorem sat_diskA {G : Glob} {w : World} {bd : Nat} {A : Ab} {H : List HP} (hs : Sat G w (diskA bd A :: H)) : ∃ D, Rel D A ∧ Sat G w (disk bd D :: H) := by
  obtain ⟨t, o, u, hp, hpw, h1, h2, ⟨D, hR, hA⟩, hH, hd, he⟩ := hs
  exact ⟨D, hR, t, o, u, hp, hpw, h1, h2, hA, hH, hd, he⟩
end Go.Proofs.YtpecmnaikjbanaaGreatDoor
namespace Go.Proofs.YtpecmnaikjbanaaGreatDoor
open Go Go.SL
theorem ctr_disk {P : Program} {f : FuncId} {args : List Value} {bd : Nat} {A : Ab} {Pre : List HP} {Post Post' : Value → List HP → Prop} (hc : P.funcs[f]?.map callable = some true)
    (h : ∀ D, Rel D A → Ctr P f args (disk bd D :: Pre) Post) (hp : ∀ v H, Post v H → ∃ H', Post' v H' ∧ Ent H H') : Ctr P f args (diskA bd A :: Pre) Post' :=
  ⟨hc, fun G w F hw => by
    obtain ⟨D, hR, hw1⟩ := sat_diskA hw
    exact ((h D hR).2 G w F hw1).mono fun e w' h' => let ⟨v, H, he, hpo, hs⟩ := h'; let ⟨H', hq, hE⟩ := hp v H hpo; ⟨v, H', he, hq, hs.ent (Ent.append F hE)⟩⟩
attribute [local irreducible] J K Ctr Ends pts slc mapR mapI sbRow stock arrS
theorem Off_dA (bd : Nat) (A : Ab) : Ctr Tryz.prog 37 [ptr bd] [diskA bd A] (fun v H => v = .bool A.off ∧ H = [diskA bd A]) := by
  refine ctr_disk (by kernel_rfl) (Post := fun v H => v = .bool A.off ∧ H = [diskA bd A]) (fun D hR => ?_) (fun v H h => ⟨H, h, Ent.refl _⟩)
  obtain ⟨room, bm, sts, wrs, pln, off, maps, arrs, files, stb, wl⟩ := D
  have hoff := hR.off
  simp only at hoff
  subst hoff
  refine Ctr.enter Tryz.func37 (by kernel_rfl) rfl Tryz.ntmps37 rfl rfl ?_
  intro G F R hE
  refine K_ent (disk_o _ _ _ _ _ _ _ _ _ _ _ _ _) ?_
  (refine go ?_)
  refine K_ent ((Ent.pick [0, 1, 2, 3, 4, 5] rfl).trans (disk_c _ _ _ _ _ _ _ _ _ _ _ _ _)) ?_
  refine K_ent (diskA_in hR _) ?_
  (first | refine K_return hE Tryz.func37 rfl _ rfl ⟨rfl, rfl⟩ entA | refine K_fallEnd hE Tryz.func37 rfl _ rfl ⟨rfl, rfl⟩ entA)
theorem New_dA (room : Nat) (h1 : 1 ≤ room) (h2 : room ≤ 1073741824) : Ctr Tryz.prog 11 [.int .i64 room] [] (fun v H => ∃ bd, v = .tuple #[ptr bd, .int .i64 0] ∧ H = [diskA bd (Ab.new room)]) :=
  (New_good room h1 h2).conv (Ent.refl _) (by rintro v H ⟨bd, D, hR, rfl, rfl⟩; exact ⟨_, ⟨bd, rfl, rfl⟩, diskA_in hR _⟩)
theorem Size_dA (bd : Nat) (A : Ab) (name : ByteArray) : Ctr Tryz.prog 67 [ptr bd, .string name] [diskA bd A] (fun v H => H = [diskA bd A] ∧ v = .tuple #[.int .i64 (A.size name).1, .int .i64 (A.size name).2]) :=
  ctr_disk (by kernel_rfl) (Post := fun v H => ∃ D, Rel D A ∧ H = [disk bd D] ∧ v = .tuple #[.int .i64 (A.size name).1, .int .i64 (A.size name).2]) (fun D hR => (Size_any bd D A hR name).conv (Ent.refl _) (by rintro v H ⟨rfl, rfl⟩; exact ⟨_, ⟨D, hR, rfl, rfl⟩, Ent.refl _⟩)) (by rintro v H ⟨D, hR, rfl, rfl⟩; exact ⟨_, ⟨rfl, rfl⟩, diskA_in hR _⟩)
theorem Read_dA (bd : Nat) (A : Ab) (name : ByteArray) (at_ n : Int) : Ctr Tryz.prog 78 [ptr bd, .string name, .int .i64 at_, .int .i64 n] [diskA bd A]
    (fun v H => ∃ r, H = [diskA bd A, slc 5 1 r (A.read name at_ n).1.length (bV (A.read name at_ n).1)] ∧ v = .tuple #[r, .int .i64 (A.read name at_ n).2]) :=
  ctr_disk (by kernel_rfl) (Post := fun v H => ∃ D r, Rel D A ∧ H = [slc 5 1 r (A.read name at_ n).1.length (bV (A.read name at_ n).1), disk bd D] ∧ v = .tuple #[r, .int .i64 (A.read name at_ n).2])
    (fun D hR => (Read_any bd D A hR name at_ n).conv (Ent.refl _) (by rintro v H ⟨r, rfl, rfl⟩; exact ⟨_, ⟨D, r, hR, rfl, rfl⟩, Ent.refl _⟩)) (by rintro v H ⟨D, r, hR, rfl, rfl⟩; exact ⟨_, ⟨r, rfl, rfl⟩, (Ent.pick [1, 0] rfl).trans (diskA_in hR _)⟩)
theorem Create_dA (bd : Nat) (A : Ab) (name : ByteArray) (hst : A.states.length ≤ 1000000000) : Ctr Tryz.prog 57 [ptr bd, .string name] [diskA bd A]
    (fun v H => ∃ f, f ∉ A.fs.map (·.1) ∧ H = [diskA bd (A.create (isName name) name f).2] ∧ v = .int .i64 (A.create (isName name) name f).1) :=
  ctr_disk (by kernel_rfl) (fun D hR => Create_any bd D A hR name hst) (by rintro v H ⟨f, D', hf, hR, rfl, rfl⟩; exact ⟨_, ⟨f, hf, rfl, rfl⟩, diskA_in hR _⟩)
theorem Remove_dA (bd : Nat) (A : Ab) (name : ByteArray) (hst : A.states.length ≤ 1000000000) : Ctr Tryz.prog 69 [ptr bd, .string name] [diskA bd A]
    (fun v H => H = [diskA bd (A.remove (isName name) name).2] ∧ v = .int .i64 (A.remove (isName name) name).1) :=
  ctr_disk (by kernel_rfl) (fun D hR => Remove_any bd D A hR name hst) (by rintro v H ⟨D', hR, rfl, rfl⟩; exact ⟨_, ⟨rfl, rfl⟩, diskA_in hR _⟩)
theorem Write_dA (bd : Nat) (A : Ab) (name : ByteArray) (at_ : Int) (X : HP) (bv : Value) (b : List UInt8) (hv : Vw X bv b.length (bV b)) (hwl : A.writes.length ≤ 1000000000) (hbl : b.length ≤ 1000000000) (hat : -9223372036854775808 ≤ at_ ∧ at_ ≤ 9223372036854775807) :
    Ctr Tryz.prog 62 [ptr bd, .string name, .int .i64 at_, bv] [diskA bd A, X]
      (fun v H => H = [diskA bd (A.write (mayW name at_ b) name at_.toNat b).2, X] ∧ v = .int .i64 (A.write (mayW name at_ b) name at_.toNat b).1) :=
  ctr_disk (by kernel_rfl) (fun D hR => Write_any bd D A hR name at_ X bv b hv hwl hbl hat) (by rintro v H ⟨D', hR, rfl, rfl⟩; exact ⟨_, ⟨rfl, rfl⟩, diskA_in hR _⟩)
theorem Sync_dA (bd : Nat) (A : Ab) (name : ByteArray) (hwl : A.writes.length ≤ 1000000000) : Ctr Tryz.prog 108 [ptr bd, .string name] [diskA bd A]
    (fun v H => H = [diskA bd (A.sync (isName name) name).2] ∧ v = .int .i64 (A.sync (isName name) name).1) :=
  ctr_disk (by kernel_rfl) (fun D hR => Sync_any bd D A hR name hwl) (by rintro v H ⟨D', hR, rfl, rfl⟩; exact ⟨_, ⟨rfl, rfl⟩, diskA_in hR _⟩)
theorem SyncNames_dA (bd : Nat) (A : Ab) : Ctr Tryz.prog 51 [ptr bd] [diskA bd A]
    (fun v H => H = [diskA bd A.syncNames.2] ∧ v = .int .i64 A.syncNames.1) :=
  ctr_disk (by kernel_rfl) (fun D hR => SyncNames_any bd D A hR) (by rintro v H ⟨D', hR, rfl, rfl⟩; exact ⟨_, ⟨rfl, rfl⟩, diskA_in hR _⟩)
theorem Rename_dA (bd : Nat) (A : Ab) (old name : ByteArray) (hst : A.states.length ≤ 1000000000) : Ctr Tryz.prog 110 [ptr bd, .string old, .string name] [diskA bd A]
    (fun v H => H = [diskA bd (A.rename ([old, name].all isName) old name).2] ∧ v = .int .i64 (A.rename ([old, name].all isName) old name).1) :=
  ctr_disk (by kernel_rfl) (fun D hR => Rename_any bd D A hR old name hst) (by rintro v H ⟨D', hR, rfl, rfl⟩; exact ⟨_, ⟨rfl, rfl⟩, diskA_in hR _⟩)
theorem Crash_dA (bd : Nat) (A : Ab) (last torn cut : Int) (X : HP) (bv : Value) (stay : List UInt8) (hv : Vw X bv stay.length (bV stay)) (hsl : stay.length ≤ 9223372036854775807) (hst : A.states.length ≤ 1000000000) (hwl : A.writes.length ≤ 1000000000)
    (h1 : -9223372036854775808 ≤ last ∧ last ≤ 9223372036854775807) (h2 : -9223372036854775808 ≤ torn ∧ torn ≤ 9223372036854775807) (h3 : -9223372036854775808 ≤ cut ∧ cut ≤ 9223372036854775807) :
    Ctr Tryz.prog 33 [ptr bd, .int .i64 last, bv, .int .i64 torn, .int .i64 cut] [diskA bd A, X] (fun v H => H = [diskA bd (A.crash last stay torn cut), X]) :=
  ctr_disk (by kernel_rfl) (fun D hR => Crash_any bd D A hR last torn cut X bv stay hv hsl hst hwl h1 h2 h3) (by rintro v H ⟨D', hR, rfl⟩; exact ⟨_, rfl, diskA_in hR _⟩)
end Go.Proofs.YtpecmnaikjbanaaGreatDoor
namespace Go.Proofs.YtpecmnaikjbanaaGreatDoor
open Go Go.SL
/-- A grew into B by one at most. -/
def Grow1 (A B : Ab) : Prop := B.states.length ≤ A.states.length + 1 ∧ B.writes.length ≤ A.writes.length + 1
theorem grow_find (A : Ab) (n : ByteArray) (ok : Bool) : (A.find n ok).2.2.states.length = A.states.length ∧ (A.find n ok).2.2.writes.length = A.writes.length := by
  have h := find_same A n ok
  rw [h.2.2.1, h.2.2.2.1]; exact ⟨rfl, rfl⟩
theorem grow_meet (A : Ab) (ok : Bool) : (A.meet ok).2.states.length = A.states.length ∧ (A.meet ok).2.writes.length = A.writes.length := by
  unfold Ab.meet
  split
  · exact ⟨rfl, rfl⟩
  split
  · exact ⟨rfl, rfl⟩
  split
  · exact ⟨rfl, rfl⟩
  · split
    · exact ⟨rfl, rfl⟩
    split <;> exact ⟨rfl, rfl⟩
theorem grow_remove (A : Ab) (ok : Bool) (n : ByteArray) : Grow1 A (A.remove ok n).2 := by
  have h := grow_find A n ok
  unfold Ab.remove
  split
  · rename_i f A1 he
    rw [he] at h
    simp only at h
    constructor <;> simp [Ab.chg] <;> omega
  · rename_i e o A1 _ he
    rw [he] at h
    simp only at h
    constructor <;> simp only <;> omega
theorem grow_rename (A : Ab) (ok : Bool) (o n : ByteArray) : Grow1 A (A.rename ok o n).2 := by
  have h := grow_find A o ok
  unfold Ab.rename
  split
  · rename_i f A1 he
    rw [he] at h
    simp only at h
    constructor <;> simp [Ab.chg] <;> omega
  · rename_i e o A1 _ he
    rw [he] at h
    simp only at h
    constructor <;> simp only <;> omega
theorem grow_create (A : Ab) (ok : Bool) (n : ByteArray) (f : Nat) : Grow1 A (A.create ok n f).2 := by
  have h := grow_meet A ok
  unfold Ab.create
  split
  · split
    · constructor <;> simp only <;> omega
    split
    · constructor <;> simp only <;> omega
    · constructor <;> simp [Ab.chg] <;> omega
  · constructor <;> simp only <;> omega
theorem grow_write (A : Ab) (ok : Bool) (n : ByteArray) (at_ : Nat) (b : List UInt8) : Grow1 A (A.write ok n at_ b).2 := by
  have h := grow_find A n ok
  unfold Ab.write
  split
  · split
    · split
      · constructor <;> simp only <;> omega
      · constructor <;> simp <;> omega
    · constructor <;> simp only <;> omega
  · constructor <;> simp only <;> omega
theorem grow_sync (A : Ab) (ok : Bool) (n : ByteArray) : Grow1 A (A.sync ok n).2 := by
  have h := grow_find A n ok
  unfold Ab.sync
  split
  · split
    · constructor
      · simp only; omega
      · simp only
        refine Nat.le_trans (List.length_filter_le _ _) ?_
        omega
    · constructor <;> simp only <;> omega
  · constructor <;> simp only <;> omega
theorem grow_syncNames (A : Ab) : Grow1 A A.syncNames.2 := by
  have h := grow_meet A true
  unfold Ab.syncNames
  split
  · constructor <;> simp only [List.length_singleton] <;> omega
  · constructor <;> simp only <;> omega
end Go.Proofs.YtpecmnaikjbanaaGreatDoor

/- files, part gg0 (plain): which names there are. -/
set_option linter.unusedVariables false
set_option linter.unusedSimpArgs false
namespace Go.Proofs.YtpecmnaikjbanaaGreatDoor
open Go Go.SL
instance memDec (n : ByteArray) (K : List ByteArray) : Decidable (n ∈ K) := decidable_of_iff (K.any (fun x => decide (x = n)) = true) (by rw [List.any_eq_true]; exact ⟨fun ⟨x, hx, h⟩ => of_decide_eq_true h ▸ hx, fun h => ⟨n, h, decide_eq_true rfl⟩⟩)
def keysA (A : Ab) : List ByteArray := A.names.map (·.1)
theorem lookIn_iff {l : List (ByteArray × Nat)} {k : ByteArray} : (Ab.lookIn l k).isSome = true ↔ k ∈ l.map (·.1) := by
  unfold Ab.lookIn
  rw [Option.isSome_map, List.find?_isSome]
  simp [List.mem_map]
theorem keys_del {l : List (ByteArray × Nat)} {k n : ByteArray} : n ∈ (Ab.delN l k).map (·.1) ↔ n ∈ l.map (·.1) ∧ n ≠ k := by
  unfold Ab.delN
  simp only [List.mem_map, List.mem_filter]
  constructor
  · rintro ⟨x, ⟨h1, h2⟩, rfl⟩
    exact ⟨⟨x, h1, rfl⟩, by simpa using h2⟩
  · rintro ⟨⟨x, h1, rfl⟩, h2⟩
    exact ⟨x, ⟨h1, by simpa using h2⟩, rfl⟩
theorem keys_set {l : List (ByteArray × Nat)} {k n : ByteArray} {f : Nat} : n ∈ (Ab.setN l k f).map (·.1) ↔ n ∈ l.map (·.1) ∨ n = k := by
  unfold Ab.setN
  split
  · rename_i h
    have hk := lookIn_iff.1 h
    rw [List.map_map]
    have : (l.map ((fun x => x.1) ∘ fun x => if x.1 = k then (k, f) else x)) = l.map (·.1) := by
      apply List.map_congr_left
      intro x _
      simp only [Function.comp]
      split
      · rename_i h; rw [h]
      · rfl
    rw [this]
    constructor
    · exact .inl
    · rintro (h | rfl)
      · exact h
      · exact hk
  · simp
theorem meet_names (A : Ab) (ok : Bool) : (A.meet ok).2.names = A.names ∧ (A.meet ok).2.states = A.states := by
  unfold Ab.meet
  split
  · exact ⟨rfl, rfl⟩
  · split
    · exact ⟨rfl, rfl⟩
    · split
      · exact ⟨rfl, rfl⟩
      · split
        · exact ⟨rfl, rfl⟩
        · split <;> exact ⟨rfl, rfl⟩
theorem create_names (A : Ab) (ok : Bool) (name : ByteArray) (f : Nat) : (((A.create ok name f).1 = 0 ∧ name ∉ keysA A ∧ ∀ n, n ∈ keysA (A.create ok name f).2 ↔ n ∈ keysA A ∨ n = name) ∨ ((A.create ok name f).1 ≠ 0 ∧ keysA (A.create ok name f).2 = keysA A)) ∧ (A.create ok name f).2.states.length ≤ A.states.length + 1 := by
  obtain ⟨h1, h2⟩ := meet_names A ok
  unfold Ab.create keysA
  split
  · split
    · exact ⟨.inr ⟨by simp, by rw [h1]⟩, by simp only [h2]; omega⟩
    · rename_i hl
      split
      · exact ⟨.inr ⟨by simp, by rw [h1]⟩, by simp only [h2]; omega⟩
      · refine ⟨.inl ⟨rfl, ?_, fun n => ?_⟩, by simp [Ab.chg, h2]⟩
        · intro h
          apply hl
          unfold Ab.look
          rw [h1]
          exact lookIn_iff.2 h
        · simp [Ab.chg, h1]
  · rename_i hm
    exact ⟨.inr ⟨hm, by rw [h1]⟩, by simp only [h2]; omega⟩
theorem find_names (A : Ab) (name : ByteArray) (ok : Bool) : (A.find name ok).2.2.names = A.names ∧ (A.find name ok).2.2.states = A.states ∧ ((A.find name ok).1 = 0 → (∃ f, (A.find name ok).2.1 = some f) ∧ name ∈ keysA A) ∧ ((A.find name ok).1 ≠ 0 → (A.find name ok).2.1 = none) := by
  obtain ⟨h1, h2⟩ := meet_names A ok
  unfold Ab.find
  split
  · split
    · exact ⟨h1, h2, (fun h => by cases h), fun _ => rfl⟩
    · rename_i hm f hl
      refine ⟨h1, h2, fun _ => ⟨⟨f, rfl⟩, ?_⟩, fun h => absurd rfl h⟩
      unfold keysA
      rw [← h1]
      exact lookIn_iff.1 (by unfold Ab.look at hl; rw [hl]; rfl)
  · rename_i hm
    exact ⟨h1, h2, fun h => absurd h hm, fun _ => rfl⟩
theorem remove_names (A : Ab) (ok : Bool) (name : ByteArray) : (((A.remove ok name).1 = 0 ∧ name ∈ keysA A ∧ ∀ n, n ∈ keysA (A.remove ok name).2 ↔ n ∈ keysA A ∧ n ≠ name) ∨ ((A.remove ok name).1 ≠ 0 ∧ keysA (A.remove ok name).2 = keysA A)) ∧ (A.remove ok name).2.states.length ≤ A.states.length + 1 := by
  obtain ⟨h1, h2, h3, h4⟩ := find_names A name ok
  unfold Ab.remove
  rcases hf : A.find name ok with ⟨e, o, A1⟩
  rw [hf] at h1 h2 h3 h4
  simp only at h1 h2 h3 h4
  by_cases he : e = 0
  · subst he
    obtain ⟨⟨f, rfl⟩, hm⟩ := h3 rfl
    simp only
    refine ⟨.inl ⟨trivial, hm, fun n => ?_⟩, by simp [Ab.chg, h2]⟩
    unfold keysA Ab.chg
    simp only
    rw [keys_del, h1]
  · have := h4 he
    subst this
    cases e with
    | zero => exact absurd rfl he
    | succ e => exact ⟨.inr ⟨he, by unfold keysA; simp only; rw [h1]⟩, by simp only [h2]; omega⟩
theorem rename_names (A : Ab) (ok : Bool) (old name : ByteArray) : (((A.rename ok old name).1 = 0 ∧ old ∈ keysA A ∧ ∀ n, n ∈ keysA (A.rename ok old name).2 ↔ (n ∈ keysA A ∧ n ≠ old) ∨ n = name) ∨ ((A.rename ok old name).1 ≠ 0 ∧ keysA (A.rename ok old name).2 = keysA A)) ∧ (A.rename ok old name).2.states.length ≤ A.states.length + 1 := by
  obtain ⟨h1, h2, h3, h4⟩ := find_names A old ok
  unfold Ab.rename
  rcases hf : A.find old ok with ⟨e, o, A1⟩
  rw [hf] at h1 h2 h3 h4
  simp only at h1 h2 h3 h4
  by_cases he : e = 0
  · subst he
    obtain ⟨⟨f, rfl⟩, hm⟩ := h3 rfl
    simp only
    refine ⟨.inl ⟨trivial, hm, fun n => ?_⟩, by simp [Ab.chg, h2]⟩
    unfold keysA Ab.chg
    simp only
    rw [keys_set, keys_del, h1]
  · have := h4 he
    subst this
    cases e with
    | zero => exact absurd rfl he
    | succ e => exact ⟨.inr ⟨he, by unfold keysA; simp only; rw [h1]⟩, by simp only [h2]; omega⟩
/-- The statement's own set, as a map. -/
def TH (es : List (ByteArray × Value)) (K : List ByteArray) : Prop := (∀ n, n ∈ es.map (·.1) ↔ n ∈ K) ∧ ∀ x ∈ es, x.2 = .bool true
theorem TH.look {es : List (ByteArray × Value)} {K : List ByteArray} (h : TH es K) (n : ByteArray) : (alook es n).getD (.bool false) = .bool (decide (n ∈ K)) := by
  by_cases hk : n ∈ K
  · rw [decide_eq_true hk]
    have h1 := (h.1 n).2 hk
    unfold alook
    cases hf : es.find? (fun x => decide (x.1 = n)) with
    | none =>
      obtain ⟨y, hy, rfl⟩ := List.mem_map.1 h1
      exact absurd (List.find?_eq_none.1 hf y hy) (by simp)
    | some y => simp [h.2 y (List.mem_of_find?_eq_some hf)]
  · rw [decide_eq_false hk, alook_none.2 (fun h1 => hk ((h.1 n).1 h1))]; rfl
theorem aset_mem (es : List (ByteArray × Value)) (k n : ByteArray) (v : Value) : n ∈ (aset es k v).map (·.1) ↔ n ∈ es.map (·.1) ∨ n = k := by
  unfold aset
  split
  · rename_i hk
    have : (es.map fun x => if x.1 = k then (k, v) else x).map (·.1) = es.map (·.1) := by
      rw [List.map_map]
      apply List.map_congr_left
      intro x _
      simp only [Function.comp]
      split
      · rename_i h; rw [h]
      · rfl
    rw [this]
    constructor
    · exact .inl
    · rintro (h | rfl)
      · exact h
      · exact hk
  · simp
theorem TH.set {es : List (ByteArray × Value)} {K K' : List ByteArray} {k : ByteArray} (h : TH es K) (hK : ∀ n, n ∈ K' ↔ n ∈ K ∨ n = k) : TH (aset es k (.bool true)) K' := by
  refine ⟨fun n => by rw [aset_mem, h.1, hK], fun x hx => ?_⟩
  unfold aset at hx
  split at hx
  · obtain ⟨y, hy, rfl⟩ := List.mem_map.1 hx
    split
    · rfl
    · exact h.2 y hy
  · rcases List.mem_append.1 hx with h1 | h1
    · exact h.2 x h1
    · simp at h1; subst h1; rfl
theorem TH.del {es : List (ByteArray × Value)} {K K' : List ByteArray} {k : ByteArray} (h : TH es K) (hK : ∀ n, n ∈ K' ↔ n ∈ K ∧ n ≠ k) : TH (adel es k) K' := by
  unfold adel
  refine ⟨fun n => ?_, fun x hx => h.2 x (List.mem_filter.1 hx).1⟩
  rw [hK, ← h.1]
  simp only [List.mem_map, List.mem_filter]
  constructor
  · rintro ⟨x, ⟨h1, h2⟩, rfl⟩
    exact ⟨⟨x, h1, rfl⟩, by simpa using h2⟩
  · rintro ⟨⟨x, h1, rfl⟩, h2⟩
    exact ⟨x, ⟨h1, by simpa using h2⟩, rfl⟩
theorem TH.mono {es : List (ByteArray × Value)} {K K' : List ByteArray} (h : TH es K) (hK : ∀ n, n ∈ K' ↔ n ∈ K) : TH es K' := ⟨fun n => by rw [h.1, hK], h.2⟩
theorem nodup_len2 {α : Type} {a b : List α} (ha : a.Nodup) (hb : b.Nodup) (h : ∀ n, n ∈ a ↔ n ∈ b) : a.length = b.length :=
  ((List.perm_ext_iff_of_nodup ha hb).2 h).length_eq
/-- Names in order, as bytes. -/
def sortB (l : List ByteArray) : List (List UInt8) := (l.map fun b => b.data.toList).mergeSort fun x y => decide (x ≤ y)
theorem sortB_sorted (l : List ByteArray) : (sortB l).Pairwise (· ≤ ·) :=
  (List.pairwise_mergeSort (le := fun x y : List UInt8 => decide (x ≤ y)) (fun a b c h1 h2 => decide_eq_true (List.le_trans (of_decide_eq_true h1) (of_decide_eq_true h2))) (fun a b => by simpa using List.le_total a b) _).imp fun h => of_decide_eq_true h
theorem sortB_perm0 (l : List ByteArray) : (sortB l).Perm (l.map fun b => b.data.toList) := List.mergeSort_perm _ _
theorem sortB_perm {a b : List ByteArray} (h : a.Perm b) : sortB a = sortB b :=
  List.Perm.eq_of_pairwise (fun x y _ _ h1 h2 => List.le_antisymm h1 h2) (sortB_sorted a) (sortB_sorted b) ((sortB_perm0 a).trans ((h.map _).trans (sortB_perm0 b).symm))
theorem sortB_len (l : List ByteArray) : (sortB l).length = l.length := by rw [(sortB_perm0 l).length_eq, List.length_map]
theorem sortB_mem {l : List ByteArray} {x : List UInt8} (h : x ∈ sortB l) : (⟨x.toArray⟩ : ByteArray) ∈ l := by
  obtain ⟨b, hb, rfl⟩ := List.mem_map.1 ((sortB_perm0 l).mem_iff.1 h)
  exact hb
theorem bytes_inj {a b : ByteArray} (h : a.data.toList = b.data.toList) : a = b := by
  cases a; cases b; simp only [ByteArray.mk.injEq]; exact Array.ext' h
theorem sortB_nodup {l : List ByteArray} (h : l.Nodup) : (sortB l).Nodup := by
  refine (sortB_perm0 l).nodup_iff.2 ?_
  unfold List.Nodup at h ⊢
  rw [List.pairwise_map]
  exact h.imp fun hne he => hne (bytes_inj he)
theorem sortB_lt {l : List ByteArray} (h : l.Nodup) {k : Nat} {x y : List UInt8} (hx : (sortB l)[k]? = some x) (hy : (sortB l)[k + 1]? = some y) : x < y := by
  obtain ⟨hk, rfl⟩ := List.getElem?_eq_some_iff.1 hx
  obtain ⟨hk1, rfl⟩ := List.getElem?_eq_some_iff.1 hy
  have h1 := List.pairwise_iff_getElem.1 (sortB_sorted l) k (k + 1) hk hk1 (by omega)
  have h2 := List.pairwise_iff_getElem.1 (sortB_nodup h) k (k + 1) hk hk1 (by omega)
  rcases Decidable.em ((sortB l)[k] < (sortB l)[k + 1]) with h3 | h3
  · exact h3
  · exact absurd (List.le_antisymm h1 (List.not_lt.1 h3)) h2
end Go.Proofs.YtpecmnaikjbanaaGreatDoor

/- blobs, plain: what a store is, and what each change makes of it, as relations. -/
set_option linter.unusedVariables false
set_option linter.unusedSimpArgs false
namespace Go.Proofs.YtpecmnaikjbanaaGreatDoor
open Go Go.SL
/-- What files are, by the first signs of their names. -/
def kS : List UInt8 := [115, 45]
def kB : List UInt8 := [98, 45]
def kN : List UInt8 := [110, 45]
def kI : List UInt8 := [105, 45]
def hasF (A : Ab) (nm : ByteArray) : Bool := (A.look nm).isSome
def bytesF (A : Ab) (nm : ByteArray) : Option (List UInt8) := match A.look nm with
  | none => none
  | some f => if A.off then none else some (A.now f)
def imageF (A : Ab) (d : Dg) : Option (List Bl) := (bytesF A (fileN kI d)).bind decB
def wholeF (A : Ab) (d : Dg) : Bool := match bytesF A (fileN kB d) with
  | none => false
  | some b => decide (sumL b = d)
def completeF (A : Ab) (d : Dg) : Bool := match imageF A d with
  | none => false
  | some x => decide (nameB x = d) && x.all fun y => wholeF A y.d
def usedF (A : Ab) : Nat := (A.names.map fun x => if (hashN kB x.1).isSome then (A.now x.2).length else 0).sum
/-- The names in their order. -/
def namesF (A : Ab) : List ByteArray := (sortB (keysA A)).map strOf
def imagesF (A : Ab) : List Dg := (namesF A).filterMap (hashN kI)
/-- Steps of a disk. -/
abbrev Stp := Ab → Nat → Ab → Prop
def stCreate (nm : ByteArray) : Stp := fun A e B => ∃ f, f ∉ A.fs.map (·.1) ∧ (e, B) = A.create (isName nm) nm f
def stRemove (nm : ByteArray) : Stp := fun A e B => (e, B) = A.remove (isName nm) nm
def stWrite (nm : ByteArray) (at_ : Nat) (b : List UInt8) : Stp := fun A e B => (e, B) = A.write (mayW nm at_ b) nm at_ b
def stSync (nm : ByteArray) : Stp := fun A e B => (e, B) = A.sync (isName nm) nm
def stRename (o n : ByteArray) : Stp := fun A e B => (e, B) = A.rename ([o, n].all isName) o n
def stSyncNames : Stp := fun A e B => (e, B) = A.syncNames
/-- Files of a kind that are not right are taken away. -/
def Scrub (kind : List UInt8) (right : Ab → Dg → Bool) : List ByteArray → Stp
  | [], A, e, B => e = 0 ∧ B = A
  | nm :: l, A, e, B => match hashN kind nm with
    | none => Scrub kind right l A e B
    | some d => if right A d then Scrub kind right l A e B else ∃ e1 A1, stRemove nm A e1 A1 ∧ ((e1 ≠ 0 ∧ e = e1 ∧ B = A1) ∨ (e1 = 0 ∧ Scrub kind right l A1 e B))
def stScrub (kind : List UInt8) (right : Ab → Dg → Bool) : Stp := fun A => Scrub kind right (namesF A) A
def OpenS : Stp := fun A e B => ∃ e1 A1, Runs [stScrub kB wholeF, stScrub kN (fun _ _ => false), stScrub kI completeF] A e1 A1 ∧
  if e1 = 0 ∧ A1.names.length < A.names.length then stSyncNames A1 e B else e = e1 ∧ B = A1
/-- A store: its disk, what is begun, whether a change has failed. -/
structure Sto where
  A : Ab
  beg : List (Dg × Bl)
  brk : Bool
def begL (l : List (Dg × Bl)) (d : Dg) : Option Bl := (l.find? fun x => decide (x.1 = d)).map (·.2)
def openS (s : Sto) (x : Bl) : Bool := decide (begL s.beg x.d = some x)
def usedS (s : Sto) : Int := usedF s.A + (s.beg.map (·.2.size)).sum
/-- Steps that change files; an error breaks the store. -/
def chgS (ss : List Stp) (s : Sto) (e : Nat) (t : Sto) : Prop := ∃ B, Runs ss s.A e B ∧ t = ⟨B, s.beg, s.brk || decide (e ≠ 0)⟩
def mayS (s : Sto) (x : Bl) : Nat := if s.brk then 10 else if openS s x then 0 else 4
def fS (x : Bl) : ByteArray := fileN kS x.d
def fB (x : Bl) : ByteArray := fileN kB x.d
def moveS (o n : ByteArray) : List Stp := [stSync o, stRename o n, stSyncNames]
def BeginR (q : Int) (x : Bl) (s : Sto) (e : Nat) (t : Sto) : Prop :=
  if s.brk then e = 10 ∧ t = s else if rightB x = false then e = 1 ∧ t = s else if (begL s.beg x.d).isSome ∨ hasF s.A (fB x) then e = 5 ∧ t = s
  else if q < usedS s + x.size then e = 11 ∧ t = s
  else if hasF s.A (fS x) then e = 0 ∧ t = ⟨s.A, s.beg ++ [(x.d, x)], s.brk⟩
  else ∃ e1 s1, chgS [stCreate (fS x), stSyncNames] s e1 s1 ∧ ((e1 ≠ 0 ∧ e = e1 ∧ t = s1) ∨ (e1 = 0 ∧ e = 0 ∧ t = ⟨s1.A, s1.beg ++ [(x.d, x)], s1.brk⟩))
def PutS (x : Bl) (i : Int) (b : List UInt8) (s : Sto) (e : Nat) (t : Sto) : Prop :=
  if mayS s x ≠ 0 then e = mayS s x ∧ t = s else match spanB x i with
    | none => e = 1 ∧ t = s
    | some (at_, n) => if (b.length : Int) ≠ n then e = 1 ∧ t = s else chgS [stWrite (fS x) at_.toNat b] s e t
def SyncS (x : Bl) (s : Sto) (e : Nat) (t : Sto) : Prop := if mayS s x ≠ 0 then e = mayS s x ∧ t = s else chgS [stSync (fS x)] s e t
def delB (l : List (Dg × Bl)) (d : Dg) : List (Dg × Bl) := l.filter fun x => !decide (x.1 = d)
def AbortS (x : Bl) (s : Sto) (e : Nat) (t : Sto) : Prop :=
  if mayS s x ≠ 0 then e = mayS s x ∧ t = s else ∃ s1, chgS [stRemove (fS x)] s e s1 ∧ t = if e ≠ 0 then s1 else ⟨s1.A, delB s1.beg x.d, s1.brk⟩
def InstallS (x : Bl) (s : Sto) (e : Nat) (t : Sto) : Prop :=
  if mayS s x ≠ 0 then e = mayS s x ∧ t = s
  else if wholeB x ((bytesF s.A (fS x)).getD []) = false then ∃ e1, AbortS x s e1 t ∧ e = if e1 ≠ 0 then e1 else 8
  else ∃ s1, chgS (moveS (fS x) (fB x)) s e s1 ∧ t = if e ≠ 0 then s1 else ⟨s1.A, delB s1.beg x.d, s1.brk⟩
def CommitS (l : List Bl) (s : Sto) (e : Nat) (t : Sto) : Prop :=
  if s.brk then e = 10 ∧ t = s else if imageB l ≠ 0 then e = imageB l ∧ t = s
  else if hasF s.A (fileN kI (nameB l)) then e = 0 ∧ t = s
  else if l.any (fun y => !hasF s.A (fB y)) then e = 4 ∧ t = s
  else chgS ((if hasF s.A (fileN kN (nameB l)) then [stRemove (fileN kN (nameB l))] else []) ++ [stCreate (fileN kN (nameB l)), stWrite (fileN kN (nameB l)) 0 (encB l)] ++ moveS (fileN kN (nameB l)) (fileN kI (nameB l))) s e t
/-- The hashes of the blobs that images have. -/
def keptF (A : Ab) : List Dg := (imagesF A).flatMap fun d => ((imageF A d).getD []).map (·.d)
def SweepL (kept : List Dg) : List Bl → Stp
  | [], A, e, B => e = 0 ∧ B = A
  | y :: l, A, e, B => if y.d ∈ kept ∨ hasF A (fB y) = false then SweepL kept l A e B else ∃ e1 A1, stRemove (fB y) A e1 A1 ∧ ((e1 ≠ 0 ∧ e = e1 ∧ B = A1) ∨ (e1 = 0 ∧ SweepL kept l A1 e B))
def stSweep (x : List Bl) : Stp := fun A e B => ∃ l, l.Perm x ∧ SweepL (keptF A) l A e B
def DropS (d : Dg) (s : Sto) (e : Nat) (t : Sto) : Prop :=
  if s.brk then e = 10 ∧ t = s else match imageF s.A d with
    | none => e = 4 ∧ t = s
    | some x => chgS [stRemove (fileN kI d), stSweep x, stSyncNames] s e t
end Go.Proofs.YtpecmnaikjbanaaGreatDoor

/- Engine, part L: a whole element read where it stands through a region. Nothing here names a program. -/
set_option linter.unusedVariables false
set_option linter.unusedSimpArgs false
namespace Go.SL
section
variable {P : Program} {U : Tr} [hU : TabOk P U] {f : FuncId} {n : Nat} {R : Ending → World → Prop} {G : Glob} {k : List Item} {L : Lst} {H H' : List HP} {S : World → Prop} {all : Array Oper} {rest : Pl}
  {ty : TypeId} {pos : String} {af : Array Edge} {gd : Option (Nat × Bool)} {m : Bool} {d : Tmp}
theorem J_loadElemS {Hs : List HP} {t : TypeId} {x : Operand} {b o off nn cap : Nat} {ty' : Ty} {es cs : List Value} {A : HP} (i idx : Nat) (hd : Nat.blt d n = true) (hx : ev L x = some (.pointer (some ⟨b, off, none⟩)))
    (hi : getL Hs i = some A) (hv : Vw A (.slice (some ⟨b, o, none⟩) nn cap) nn cs) (hoff : off = o + idx) (hes : ∀ j v, es[j]? = some v → cs[idx + j]? = some v) (ht : U.get t = some ty') (hg : ty'.isAgg = true) (hl : Nat.beq es.length ty'.info.size = true)
    (h : J P f n R G (fun w => Sat G w Hs) all rest k ((d, .agg es.toArray) :: L) H) : J P f n R G (fun w => Sat G w Hs) all (.cons true true ⟨some d, .load t x, ty, pos, af, gd⟩ rest) k L H :=
  J_readS hd (fun a w ha hw => by
    have hc : ∀ j v, es[j]? = some v → w.cell? ⟨b, off + j, none⟩ = some v := fun j v hj => by
      obtain ⟨h, hh, hA⟩ := Sat.getA hw hi
      have := hv.cell (hes j v hj) h hA
      rw [hoff, show o + idx + j = o + (idx + j) by omega]
      exact cell_of_hcell hh this
    simp [execOp, ha.ev hx, run_loadAgg (P := P) ht hg (Nat.eq_of_beq_eq_true hl) hc]) h
end
theorem eqS_dec (a b : ByteArray) : eqS a b = decide (a = b) := by
  rw [Bool.eq_iff_iff, eqS_iff]; simp
end Go.SL

/- Engine, part Ar: arrays of many cells; a number turned round. Nothing here names a program. -/
set_option linter.unusedSimpArgs false
set_option linter.unusedVariables false
set_option linter.unusedSectionVars false
namespace Go.SL
open Go
theorem allOne_wV (l : List W32) : allOne (wV l) = true := by
  induction l with
  | nil => rfl
  | cons x l ih =>
    show (Value.oneCell' (u32 x) && allOne (wV l)) = true
    rw [ih]; rfl
section
variable {P : Program} {U : Tr} [hU : TabOk P U] {f : FuncId} {n : Nat} {R : Ending → World → Prop} {G : Glob} {k : List Item} {L : Lst} {H H' : List HP} {S : World → Prop} {all : Array Oper} {rest : Pl}
  {ty : TypeId} {pos : String} {af : Array Edge} {gd : Option (Nat × Bool)} {m : Bool} {d : Tmp}
theorem J_negI {t : TypeId} {x : Operand} {j : IntKind} {p : Int} (hd : Nat.blt d n = true) (hx : ev L x = some (.int j p)) (hr : inK j (-p))
    (h : J P f n R G S all rest k ((d, .int j (-p)) :: L) H) : J P f n R G S all (.cons m true ⟨some d, .unOp .neg t x, ty, pos, af, gd⟩ rest) k L H :=
  J_pure hd (fun a ha w => by
    have e : j.wrap (0 - p) = -p := by rw [Int.zero_sub]; exact wrap_in hr
    simp only [execOp, ha.ev hx, Sem.run_bind, Result.andThen_ok, Op.unary, Op.intArith]
    simp
    simpa using e) h
/-- A whole block as an array. -/
theorem J_loadArr {t : TypeId} {x : Operand} {b : Nat} {ty' : Ty} {l : List Value} {e : TypeId} (i : Nat) (hd : Nat.blt d n = true) (hx : ev L x = some (.pointer (some ⟨b, 0, none⟩))) (hi : getL H i = some (pts b (cl l e)))
    (ht : U.get t = some ty') (hg : ty'.isAgg = true) (hl : l.length = ty'.info.size)
    (h : J P f n R G S all rest k ((d, .agg l.toArray) :: L) H) : J P f n R G S all (.cons false true ⟨some d, .load t x, ty, pos, af, gd⟩ rest) k L H :=
  J_loadAggC (U := U) hd hx ht hg (by rw [hl]; exact Nat.beq_refl _) (fun w hw j v hj => by rw [cell_of_block (hw.getP hi), Nat.zero_add]; exact hj) h
theorem J_loadArrS {Hs : List HP} {t : TypeId} {x : Operand} {b : Nat} {ty' : Ty} {l : List Value} {e : TypeId} (i : Nat) (hd : Nat.blt d n = true) (hx : ev L x = some (.pointer (some ⟨b, 0, none⟩))) (hi : getL Hs i = some (pts b (cl l e)))
    (ht : U.get t = some ty') (hg : ty'.isAgg = true) (hl : l.length = ty'.info.size)
    (h : J P f n R G (fun w => Sat G w Hs) all rest k ((d, .agg l.toArray) :: L) H) : J P f n R G (fun w => Sat G w Hs) all (.cons true true ⟨some d, .load t x, ty, pos, af, gd⟩ rest) k L H :=
  J_readS hd (fun a w ha hw => by
    have hw : Sat G w Hs := hw
    simp [execOp, ha.ev hx, run_loadAgg (P := P) ht hg hl (fun j v hj => by rw [cell_of_block (hw.getP hi), Nat.zero_add]; exact hj)]) h
/-- A whole array into its block. -/
theorem J_storeArr {t : TypeId} {x y : Operand} {b : Nat} {ty' : Ty} {l l' : List Value} {e : TypeId} (i : Nat) (hS : ∀ w, Sat G w H' → Sx rest S w)
    (hx : ev L x = some (.pointer (some ⟨b, 0, none⟩))) (hy : ev L y = some (.agg l'.toArray)) (ht : U.get t = some ty') (hsz : l'.length = ty'.info.size) (hne : l' ≠ []) (hone : allOne l' = true)
    (hi : getL H i = some (pts b (cl l e))) (hll : l.length = l'.length) (hp : putP i (pts b (cl l' e)) H [] = .mk H')
    (h : J P f n R G S all rest k L H') : J P f n R G S all (.cons false true ⟨none, .store t x y, ty, pos, af, gd⟩ rest) k L H := by
  have hc : cellsL (.agg l'.toArray) = l' := by simp [cellsL]
  refine J_storeRow (U := U) (l' := l') i hS hx hy ht (by rw [hc, hsz]; exact Nat.beq_refl _) (by rw [hc]; cases l' with | nil => exact absurd rfl hne | cons _ _ => rfl) (by rw [hc]; exact hone) hi (by rw [hc]; omega) (by rw [hc]; simp [hll]) hp h
/-- One cell of a block. -/
theorem J_storeCell {t : TypeId} {x y : Operand} {b off : Nat} {ty' : Ty} {l : List Value} {u : Value} {e : TypeId} (i : Nat) (hS : ∀ w, Sat G w H' → Sx rest S w)
    (hx : ev L x = some (.pointer (some ⟨b, off, none⟩))) (hy : ev L y = some u) (ht : U.get t = some ty') (hsz : Nat.beq ty'.info.size 1 = true) (hc : cellsL u = [u]) (hone : allOne [u] = true)
    (hi : getL H i = some (pts b (cl l e))) (hq : off < l.length) (hp : putP i (pts b (cl (l.set off u) e)) H [] = .mk H')
    (h : J P f n R G S all rest k L H') : J P f n R G S all (.cons false true ⟨none, .store t x y, ty, pos, af, gd⟩ rest) k L H := by
  refine J_storeRow (U := U) (l' := l.set off u) i hS hx hy ht (by rw [hc, Nat.eq_of_beq_eq_true hsz]; rfl) (by rw [hc]; rfl) (by rw [hc]; exact hone) hi (by rw [hc]; simp; omega) ?_ hp h
  rw [hc, List.set_eq_take_append_cons_drop, if_pos hq]
  simp
/-- The place of a cell of an array. -/
theorem J_arrAt {t elem : TypeId} {ty' te : Ty} {x y : Operand} {j : IntKind} {b o len : Nat} {p : Int} (q : Nat) (hd : Nat.blt d n = true)
    (ht : U.get t = some ty') (hu : ty'.und = .array len elem) (he : U.get elem = some te) (hs : Nat.beq te.info.size 1 = true) (hx : ev L x = some (.pointer (some ⟨b, o, none⟩))) (hy : ev L y = some (.int j p)) (hq : p = (q : Int)) (hlt : q < len)
    (h : J P f n R G S all rest k ((d, .pointer (some ⟨b, o + q, none⟩)) :: L) H) : J P f n R G S all (.cons m true ⟨some d, .indexAddr t x y, ty, pos, af, gd⟩ rest) k L H := by
  subst hq
  refine J_indexArr hd ht hu he hx hy (by omega) (by omega) ?_
  rw [Nat.eq_of_beq_eq_true hs, Int.toNat_natCast, Nat.mul_one]
  exact h
/-- A cell of a block, wherever. -/
theorem J_loadCell {t : TypeId} {x : Operand} {b off : Nat} {ty' : Ty} {l : List Value} {e : TypeId} {v : Value} (i q : Nat) (hd : Nat.blt d n = true)
    (hx : ev L x = some (.pointer (some ⟨b, off, none⟩))) (hi : getL H i = some (pts b (cl l e))) (hq : off = q) (hv : l[q]? = some v) (ht : U.get t = some ty') (hg : ty'.isAgg = false)
    (h : J P f n R G S all rest k ((d, v) :: L) H) : J P f n R G S all (.cons false true ⟨some d, .load t x, ty, pos, af, gd⟩ rest) k L H := by
  subst hq
  exact J_load (U := U) i hd hx hi (by rw [getL_eq]; exact hv) ht hg h
theorem J_loadCellS {Hs : List HP} {t : TypeId} {x : Operand} {b off : Nat} {ty' : Ty} {l : List Value} {e : TypeId} {v : Value} (i q : Nat) (hd : Nat.blt d n = true)
    (hx : ev L x = some (.pointer (some ⟨b, off, none⟩))) (hi : getL Hs i = some (pts b (cl l e))) (hq : off = q) (hv : l[q]? = some v) (ht : U.get t = some ty') (hg : ty'.isAgg = false)
    (h : J P f n R G (fun w => Sat G w Hs) all rest k ((d, v) :: L) H) : J P f n R G (fun w => Sat G w Hs) all (.cons true true ⟨some d, .load t x, ty, pos, af, gd⟩ rest) k L H := by
  subst hq
  exact J_loadH (U := U) i hd hx hi (by rw [getL_eq]; exact hv) ht hg h
/-- An array of parts. -/
theorem J_buildArr {t e : TypeId} {ty' te : Ty} {nn : Nat} {z : Array Value} {parts : Array (Nat × Operand)} {cs : List Value} (hd : Nat.blt d n = true) (ht : U.get t = some ty') (hu : ty'.und = .array nn e) (he : U.get e = some te) (hz : ty'.info.zero = some (.agg z))
    (hb : buildS L te.info.size z.toList parts.toList = .mk cs)
    (h : J P f n R G S all rest k ((d, .agg cs.toArray) :: L) H) : J P f n R G S all (.cons m true ⟨some d, .build t parts, ty, pos, af, gd⟩ rest) k L H := by
  have hrun : ∀ a w, Has n L a → (execOp a.eval ⟨some d, .build t parts, ty, pos, af, gd⟩).run P w = .ok (.value (.agg cs.toArray)) w := fun a w ha => by
    have hf := buildS_fill ha te.info.size parts.toList z.toList cs hb
    rw [Array.toArray_toList] at hf
    simp only [execOp, Instr.build, Sem.run_bind, run_zeroValue ht hz, run_underlying ht, Result.andThen_ok, hu, run_sizeOf he, Value.cells, Array.toList_map, hf, Sem.run_pure]
  cases m with
  | false => exact J_read hd (fun a w ha _ => hrun a w ha) h
  | true => exact J_readS hd (fun a w ha _ => hrun a w ha) h
end
end Go.SL

/- Engine, part T: the end of a call whose first result lies in a cell. Nothing here names a program. -/
set_option linter.unusedVariables false
set_option linter.unusedSimpArgs false
namespace Go.SL
open Go
theorem K_returnC {P : Program} {U : Tr} [hU : TabOk P U] {f : FuncId} {n : Nat} {R : Ending → World → Prop} {G : Glob} {k k0 : List Item} {L : Lst} {H : List HP} {fn : Func} {F : List HP} {Post : Value → List HP → Prop} {p q b : Nat} {t e : TypeId} {ty' : Ty} {cs : List Value} {u : Value} (i : Nat)
    (hR : Ends R G F Post) (hf : P.funcs[f]? = some fn) (hk : advK 1000 k0 = .mk (.code .ret :: k)) (hfr : fn.results.toList = [.cell p t, .tmp q]) (hp : fget L p = some (.pointer (some ⟨b, 0, none⟩))) (hq : fget L q = some u)
    (ht : U.get t = some ty') (hg : ty'.isAgg = true) (hl : Nat.beq cs.length ty'.info.size = true) (hi : getL H i = some (pts b (cl cs e))) {Hq : List HP}
    (hpost : Post (.tuple #[.agg cs.toArray, u]) Hq) (he : Ent H (Hq ++ F)) : K P f n R G k0 L H := by
  refine K_advK 1000 hk ?_
  intro a w ha hw cs'
  have hc : ∀ j v, cs[j]? = some v → w.cell? ⟨b, 0 + j, none⟩ = some v := fun j v hj => by rw [cell_of_block (hw.getP hi), Nat.zero_add]; exact hj
  have hld := run_loadAgg (P := P) (w := w) ht hg (Nat.eq_of_beq_eq_true hl) hc
  have hld' : (loadVar t ⟨b, 0, none⟩).run P w = .ok (.agg cs.toArray) w := by simpa [Instr.loadAt, Instr.sureAddr] using hld
  have g1 : a.tmps.getD p undef = .pointer (some ⟨b, 0, none⟩) := by simp [Array.getD_eq_getD_getElem?, ha.get hp]
  have g2 : a.tmps.getD q undef = u := by simp [Array.getD_eq_getD_getElem?, ha.get hq]
  have hrun : (results fn a.tmps).run P w = .ok (.tuple #[.agg cs.toArray, u]) w := by
    rw [results_eq, Array.mapM_eq_mapM_toList, hfr]
    simp only [Sem.run_bind, Sem.run_map, List.mapM_cons, List.mapM_nil, resF, g1, g2, asAddr, Sem.run_pure, Result.andThen_ok, hld']
    simp
  rw [hR.1.1]
  exact ⟨_, w, _, hR.2 _ _ w hpost (hw.ent he), .one (stepR_ret rfl), rfl, rfl, by show a.defers = []; rw [ha.2, hR.1.2]; rfl, rfl, fn, hf, hrun⟩
end Go.SL

/- Engine, part T2: the end of a call both of whose results lie in cells, also behind ranges over functions. Nothing here names a program. -/
set_option linter.unusedVariables false
set_option linter.unusedSimpArgs false
namespace Go.SL
open Go
theorem K_retW {P : Program} {f : FuncId} {n : Nat} {R : Ending → World → Prop} {G : Glob} {ds : List Nat} {k k0 : List Item} {L : Lst} {H H' : List HP} {fn : Func} {F : List HP} {Post : Value → List HP → Prop} {v : Value} {Hq : List HP}
    (hR : Ends R G F Post) (hf : P.funcs[f]? = some fn) (hk : advK 1000 k0 = .mk (.code .ret :: k)) (he : Ent H (ds.map (fun r => pts r (.deferred (some []))) ++ H'))
    (hres : ∀ a w, Has n L a → Sat { G with ds := ds } w H' → (results fn a.tmps).run P w = .ok v w) (hpost : Post v Hq) (he2 : Ent H' (Hq ++ F)) : K P f n R { G with ds := ds } k0 L H := by
  refine K_advK 1000 hk ?_
  intro a w ha hw cs
  have hro : ({ G with ds := ds } : Glob).ro = none := hR.1.1
  rw [hro]
  obtain ⟨w', hw', hs⟩ := leave_marks (P := P) ds { bf none f a (.code .ret :: k) with mode := .returning } cs w rfl ha.2 ⟨H', hw.ent he, rfl⟩
  exact ⟨_, w', _, hR.2 _ _ w' hpost (by have := hw'.ent he2; exact this), Steps.trans (.one (stepR_ret rfl)) hs, rfl, rfl, rfl, rfl, fn, hf, hres a w' ha.1 hw'⟩
theorem run_cell {P : Program} {U : Tr} [hU : TabOk P U] {n : Nat} {L : Lst} {a : Act} {p b : Nat} {t e : TypeId} {ty' : Ty} {u : Value} {G : Glob} {w : World} {H : List HP} (i : Nat) (ha : Has n L a) (hw : Sat G w H)
    (hp : fget L p = some (.pointer (some ⟨b, 0, none⟩))) (ht : U.get t = some ty') (hg : ty'.isAgg = false) (hi : getL H i = some (pts b (cl [u] e))) : (resF a.tmps (.cell p t)).run P w = .ok u w := by
  have hc : w.cell? ⟨b, 0, none⟩ = some u := by rw [cell_of_block (hw.getP hi)]; rfl
  have hld := run_loadAt (P := P) (w := w) ht hg hc
  have g1 : a.tmps.getD p undef = .pointer (some ⟨b, 0, none⟩) := by simp [Array.getD_eq_getD_getElem?, ha.2.2 p _ hp]
  simp only [resF, g1, asAddr, Sem.run_bind, Sem.run_pure, Result.andThen_ok]
  simpa [Instr.loadAt, Instr.sureAddr] using hld
/-- Both results in cells of one value each; marks of ranges are let go. -/
theorem K_returnCC {P : Program} {U : Tr} [hU : TabOk P U] {f : FuncId} {n : Nat} {R : Ending → World → Prop} {G : Glob} {ds : List Nat} {k k0 : List Item} {L : Lst} {H H' : List HP} {fn : Func} {F : List HP} {Post : Value → List HP → Prop} {p q b1 b2 : Nat} {t1 t2 e1 e2 : TypeId} {ty1 ty2 : Ty} {u1 u2 : Value} {Hq : List HP} (i j : Nat)
    (hR : Ends R G F Post) (hf : P.funcs[f]? = some fn) (hk : advK 1000 k0 = .mk (.code .ret :: k)) (hfr : fn.results.toList = [.cell p t1, .cell q t2])
    (hp : fget L p = some (.pointer (some ⟨b1, 0, none⟩))) (hq : fget L q = some (.pointer (some ⟨b2, 0, none⟩))) (ht1 : U.get t1 = some ty1) (hg1 : ty1.isAgg = false) (ht2 : U.get t2 = some ty2) (hg2 : ty2.isAgg = false)
    (he : Ent H (ds.map (fun r => pts r (.deferred (some []))) ++ H')) (hi : getL H' i = some (pts b1 (cl [u1] e1))) (hj : getL H' j = some (pts b2 (cl [u2] e2))) (hpost : Post (.tuple #[u1, u2]) Hq) (he2 : Ent H' (Hq ++ F)) : K P f n R { G with ds := ds } k0 L H := by
  refine K_retW hR hf hk he (fun a w ha hw => ?_) hpost he2
  have h1 := run_cell (P := P) i ha hw hp ht1 hg1 hi
  have h2 := run_cell (P := P) j ha hw hq ht2 hg2 hj
  rw [results_eq, Array.mapM_eq_mapM_toList, hfr]
  simp only [Sem.run_bind, Sem.run_map, List.mapM_cons, List.mapM_nil, h1, h2, Sem.run_pure, Result.andThen_ok]
  simp
theorem K_noMarks {P : Program} {f : FuncId} {n : Nat} {R : Ending → World → Prop} {G : Glob} {k : List Item} {L : Lst} {H F : List HP} {Post : Value → List HP → Prop} (hE : Ends R G F Post) (h : K P f n R { G with ds := [] } k L H) : K P f n R G k L H := by
  have : ({ G with ds := [] } : Glob) = G := by have := hE.1.2; cases G; simp_all
  rw [this] at h
  exact h
/-- The statement, its end told over the loop's record as a function of its state. -/
theorem K_rangeP {P : Program} {f : FuncId} {n : Nat} {R : Ending → World → Prop} {G : Glob} {k : List Item} {L : Lst} {H : List HP} {ps : Array Tmp} {assign body : Code} {k0 : List Item} {g : Operand} {gid : FuncId} {cap : Array Value} {Pre : Nat → Nat → List HP} {Fr : List HP}
    (Post : Nat → Nat → (LoopState → Option Code → HP) → Value → List HP → Prop) (hk : advK 1000 k0 = .mk (.code (.rangeFunc g ps assign body) :: k)) (hro : G.ro = none)
    (hg : ev L g = some (.func (.func gid) #[] cap))
    (c : ∀ l r, Ctr P gid (.func (.yield l) #[] #[] :: cap.toList) (loopP l .ready none f n L ps assign body r :: Pre l r) (Post l r (fun st pd => loopP l st pd f n L ps assign body r))) (he : ∀ l r, Ent H (Pre l r ++ Fr))
    (hend : ∀ l r v H', Post l r (fun st pd => loopP l st pd f n L ps assign body r) v H' → ∃ st pd H'', H' = loopP l st pd f n L ps assign body r :: H'' ∧ st ≠ .busy ∧
      K P f n R { G with ds := r :: G.ds } ((pd.map Item.code).toList ++ k) L (H'' ++ (pts r (.deferred (some [])) :: Fr))) : K P f n R G k0 L H :=
  K_range hk hro hg c he hend
theorem K_slcVw {P : Program} {f : FuncId} {n : Nat} {R : Ending → World → Prop} {G : Glob} {k : List Item} {L : Lst} {H : List HP} {e : TypeId} {sz nn : Nat} {v : Value} {cs : List Value} (i : Nat) (hi : getL H i = some (slc e sz v nn cs))
    (h : Vw (slc e sz v nn cs) v nn cs → K P f n R G k L H) : K P f n R G k L H :=
  K_sat fun ⟨w, hw⟩ => by
    obtain ⟨h1, _, hA⟩ := hw.getA hi
    exact h (Vw.of_slc e sz v nn cs ⟨h1, hA⟩)
theorem slc_cap {e : TypeId} {sz nn c : Nat} {a : Option Addr} {cs : List Value} {h : Hp} (hs : slc e sz (.slice a nn c) nn cs h) : nn ≤ c := by
  obtain ⟨_, ⟨a', hv, hn, _⟩ | ⟨b, o, cap, pre, junk, hv, hp, hn, hc, _⟩⟩ := hs
  · omega
  · simp only [Value.slice.injEq] at hv; omega
theorem K_slcVC {P : Program} {f : FuncId} {n : Nat} {R : Ending → World → Prop} {G : Glob} {k : List Item} {L : Lst} {H : List HP} {e : TypeId} {sz nn c : Nat} {a : Option Addr} {cs : List Value} (i : Nat) (hi : getL H i = some (slc e sz (.slice a nn c) nn cs))
    (h : Vw (slc e sz (.slice a nn c) nn cs) (.slice a nn c) nn cs → nn ≤ c → K P f n R G k L H) : K P f n R G k L H :=
  K_sat fun ⟨w, hw⟩ => by
    obtain ⟨h1, _, hA⟩ := hw.getA hi
    exact h (Vw.of_slc e sz _ nn cs ⟨h1, hA⟩) (slc_cap hA)
theorem J_slcVC {P : Program} {f : FuncId} {n : Nat} {R : Ending → World → Prop} {G : Glob} {k : List Item} {L : Lst} {H : List HP} {S : World → Prop} {all : Array Oper} {rest : Pl} {e : TypeId} {sz nn c : Nat} {a : Option Addr} {cs : List Value} (i : Nat) (hi : getL H i = some (slc e sz (.slice a nn c) nn cs))
    (h : Vw (slc e sz (.slice a nn c) nn cs) (.slice a nn c) nn cs → nn ≤ c → J P f n R G S all rest k L H) : J P f n R G S all rest k L H :=
  J_sat fun w hw => by
    obtain ⟨h1, _, hA⟩ := hw.getA hi
    exact h (Vw.of_slc e sz _ nn cs ⟨h1, hA⟩) (slc_cap hA)
end Go.SL

/- Engine, part T3: the end of a call whose one result lies in a cell. Nothing here names a program. -/
set_option linter.unusedVariables false
set_option linter.unusedSimpArgs false
namespace Go.SL
open Go
theorem run_cell1 {P : Program} {U : Tr} [hU : TabOk P U] {n : Nat} {G : Glob} {L : Lst} {H : List HP} {fn : Func} {p b : Nat} {t e : TypeId} {ty' : Ty} {cs : List Value} {a : Act} {w : World} (i : Nat) (ha : HasG G n L a) (hw : Sat G w H)
    (hfr : fn.results.toList = [.cell p t]) (hp : fget L p = some (.pointer (some ⟨b, 0, none⟩)))
    (ht : U.get t = some ty') (hg : ty'.isAgg = true) (hl : cs.length = ty'.info.size) (hi : getL H i = some (pts b (cl cs e))) : (results fn a.tmps).run P w = .ok (.agg cs.toArray) w := by
  have hc : ∀ j v, cs[j]? = some v → w.cell? ⟨b, 0 + j, none⟩ = some v := fun j v hj => by rw [cell_of_block (hw.getP hi), Nat.zero_add]; exact hj
  have hld := run_loadAgg (P := P) (w := w) ht hg hl hc
  have hld' : (loadVar t ⟨b, 0, none⟩).run P w = .ok (.agg cs.toArray) w := by simpa [Instr.loadAt, Instr.sureAddr] using hld
  have g1 : a.tmps.getD p undef = .pointer (some ⟨b, 0, none⟩) := by simp [Array.getD_eq_getD_getElem?, ha.get hp]
  rw [results_eq, Array.mapM_eq_mapM_toList, hfr]
  simp only [Sem.run_bind, Sem.run_map, List.mapM_cons, List.mapM_nil, resF, g1, asAddr, Sem.run_pure, Result.andThen_ok, hld']
  simp
theorem K_return1C {P : Program} {U : Tr} [hU : TabOk P U] {f : FuncId} {n : Nat} {R : Ending → World → Prop} {G : Glob} {k k0 : List Item} {L : Lst} {H : List HP} {fn : Func} {F : List HP} {Post : Value → List HP → Prop} {p b : Nat} {t e : TypeId} {ty' : Ty} {cs : List Value} (i : Nat)
    (hR : Ends R G F Post) (hf : P.funcs[f]? = some fn) (hk : advK 1000 k0 = .mk (.code .ret :: k)) (hfr : fn.results.toList = [.cell p t]) (hp : fget L p = some (.pointer (some ⟨b, 0, none⟩)))
    (ht : U.get t = some ty') (hg : ty'.isAgg = true) (hl : cs.length = ty'.info.size) (hi : getL H i = some (pts b (cl cs e))) {Hq : List HP}
    (hpost : Post (.agg cs.toArray) Hq) (he : Ent H (Hq ++ F)) : K P f n R G k0 L H := by
  refine K_advK 1000 hk ?_
  intro a w ha hw cs'
  have hrun := run_cell1 (P := P) i ha hw hfr hp ht hg hl hi
  rw [hR.1.1]
  exact ⟨_, w, _, hR.2 _ _ w hpost (hw.ent he), .one (stepR_ret rfl), rfl, rfl, by show a.defers = []; rw [ha.2, hR.1.2]; rfl, rfl, fn, hf, hrun⟩
end Go.SL

