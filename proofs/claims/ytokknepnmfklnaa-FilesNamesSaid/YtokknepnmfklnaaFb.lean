/- files, part b: how a disk lies in memory; meet, find. -/
import Derived.Test.YtokknepnmfklnaaFm
import Derived.Test.YtokknepnmfklnaaFa
set_option linter.unusedVariables false
set_option linter.unusedSimpArgs false
namespace Go.Proofs.Ytokknepnmfklnaa
open Go Go.SL
attribute [local irreducible] J K Ctr Ends pts slc mapR mapI sbRow stock arrS

def ptr (f : Nat) : Value := .pointer (some ⟨f, 0, none⟩)
def ptrs (l : List (ByteArray × Nat)) : List (ByteArray × Value) := l.map fun x => (x.1, ptr x.2)
structure Dk where
  room : Nat
  bm : Nat
  sts : Value
  wrs : Value
  pln : Value
  off : Bool
  maps : List (Nat × List (ByteArray × Value))
  arrs : Arrs
  files : List (Nat × Value × Value)
  stb : List Nat
  wl : List (Nat × Nat × Value)
def mapG (x : Nat × List (ByteArray × Value)) : HP := mapR Value.string x.1 x.2
def fileG (x : Nat × Value × Value) : HP := pts x.1 (cl [x.2.1, x.2.2] 69)
def wcells (l : List (Nat × Nat × Value)) : List Value := l.flatMap fun x => [ptr x.1, .int .i64 x.2.1, x.2.2]
def diskL (bd : Nat) (D : Dk) : List HP :=
  [pts bd (cl [.int .i64 D.room, .map (some D.bm), D.sts, D.wrs, D.pln, .bool D.off] 62), stock mapG D.maps, arrS 5 D.arrs, stock fileG D.files,
   slc 58 1 D.sts D.stb.length (D.stb.map fun b => .map (some b)), slc 75 3 D.wrs D.wl.length (wcells D.wl)]
def disk (bd : Nat) (D : Dk) : HP := Sep (diskL bd D)
theorem disk_open (bd : Nat) (D : Dk) (H : List HP) : Ent (disk bd D :: H) (diskL bd D ++ H) := Ent.unsep _ _
theorem disk_close (bd : Nat) (D : Dk) (H : List HP) : Ent (diskL bd D ++ H) (disk bd D :: H) := Ent.resep _ _

theorem disk_o (bd room bm : Nat) (sts wrs pln : Value) (off : Bool) (maps : List (Nat × List (ByteArray × Value))) (arrs : Arrs) (files : List (Nat × Value × Value)) (stb : List Nat) (wl : List (Nat × Nat × Value)) (H : List HP) :
    Ent (disk bd ⟨room, bm, sts, wrs, pln, off, maps, arrs, files, stb, wl⟩ :: H)
      (pts bd (cl [.int .i64 room, .map (some bm), sts, wrs, pln, .bool off] 62) :: stock mapG maps :: arrS 5 arrs :: stock fileG files :: slc 58 1 sts stb.length (stb.map fun b => .map (some b)) :: slc 75 3 wrs wl.length (wcells wl) :: H) := Ent.unsep _ _
theorem disk_c (bd room bm : Nat) (sts wrs pln : Value) (off : Bool) (maps : List (Nat × List (ByteArray × Value))) (arrs : Arrs) (files : List (Nat × Value × Value)) (stb : List Nat) (wl : List (Nat × Nat × Value)) (H : List HP) :
    Ent (pts bd (cl [.int .i64 room, .map (some bm), sts, wrs, pln, .bool off] 62) :: stock mapG maps :: arrS 5 arrs :: stock fileG files :: slc 58 1 sts stb.length (stb.map fun b => .map (some b)) :: slc 75 3 wrs wl.length (wcells wl) :: H)
      (disk bd ⟨room, bm, sts, wrs, pln, off, maps, arrs, files, stb, wl⟩ :: H) := Ent.resep (diskL bd ⟨room, bm, sts, wrs, pln, off, maps, arrs, files, stb, wl⟩) H

structure Rel (D : Dk) (A : Ab) : Prop where
  room : D.room = A.room
  off : D.off = A.off
  names : (D.bm, ptrs A.names) ∈ D.maps
  states : All2 (fun b es => (b, ptrs es) ∈ D.maps) D.stb A.states
  fs : All2 (fun x y => x.1 = y.1 ∧ BIn D.arrs x.2.1 y.2.1 ∧ BIn D.arrs x.2.2 y.2.2) D.files A.fs
  writes : All2 (fun x y => x.1 = y.1 ∧ x.2.1 = y.2.1 ∧ BIn D.arrs x.2.2 y.2.2) D.wl A.writes
  plan : BIn D.arrs D.pln A.plan
  ids : (A.fs.map (·.1)).Nodup
  known : ∀ st ∈ A.names :: A.states, ∀ x ∈ st, x.2 ∈ A.fs.map (·.1)
  knownW : ∀ x ∈ A.writes, x.1 ∈ A.fs.map (·.1)
  nodup : ∀ st ∈ A.names :: A.states, (st.map (·.1)).Nodup
  smallF : ∀ x ∈ A.fs, x.2.1.length ≤ 1048576 ∧ x.2.2.length ≤ 1048576
  smallW : ∀ x ∈ A.writes, x.2.1 + x.2.2.length ≤ 1048576
  smallN : ∀ st ∈ A.names :: A.states, st.length ≤ 200
  smallR : A.room ≤ 1073741824
  smallP : A.plan.length ≤ 1000000000
  full : A.states ≠ []

theorem Rel.setPlan {D : Dk} {A : Ab} (h : Rel D A) {v : Value} {p : List UInt8} (o : Bool) (hp : BIn D.arrs v p) (hl : p.length ≤ 1000000000) : Rel { D with pln := v, off := o } { A with plan := p, off := o } :=
  ⟨h.room, rfl, h.names, h.states, h.fs, h.writes, hp, h.ids, h.known, h.knownW, h.nodup, h.smallF, h.smallW, h.smallN, h.smallR, hl, h.full⟩
theorem Rel.setPlan' {D : Dk} {A : Ab} (h : Rel D A) {v : Value} {p : List UInt8} (hp : BIn D.arrs v p) (hl : p.length ≤ 1000000000) : Rel { D with pln := v } { A with plan := p } :=
  ⟨h.room, h.off, h.names, h.states, h.fs, h.writes, hp, h.ids, h.known, h.knownW, h.nodup, h.smallF, h.smallW, h.smallN, h.smallR, hl, h.full⟩

theorem meet_any (bd : Nat) (D : Dk) (A : Ab) (hR : Rel D A) (may : Bool) :
    Ctr Try.prog 27 [ptr bd, .bool may] [disk bd D] (fun v H => ∃ D', Rel D' (A.meet may).2 ∧ H = [disk bd D'] ∧ v = .int .i64 (A.meet may).1) := by
  obtain ⟨room, bm, sts, wrs, pln, off, maps, arrs, files, stb, wl⟩ := D
  obtain ⟨a, cap, hpl, hcap⟩ := hR.plan.shape
  simp only at hpl
  subst hpl
  have hoff := hR.off
  simp only at hoff
  refine Ctr.enter Try.func27 (by kernel_rfl) rfl Try.ntmps27 rfl rfl ?_
  intro G F R hE
  refine K_ent (disk_o _ _ _ _ _ _ _ _ _ _ _ _ _) ?_
  cases may with
  | false =>
    (refine go ?_)
    refine K_return hE Try.func27 rfl _ rfl ⟨_, hR, rfl, rfl⟩ ((Ent.pick [0, 1, 2, 3, 4, 5] rfl).trans (disk_c _ _ _ _ _ _ _ _ _ _ _ _ _))
  | true =>
    cases off with
    | true =>
      have hm : A.meet true = (7, A) := by simp [Ab.meet, ← hoff]
      rw [hm] at hE
      (refine go ?_)
      refine K_return hE Try.func27 rfl _ rfl ⟨_, hR, rfl, rfl⟩ ((Ent.pick [0, 1, 2, 3, 4, 5] rfl).trans (disk_c _ _ _ _ _ _ _ _ _ _ _ _ _))
    | false =>
      (refine go ?_)
      refine K_condA rfl rfl ?_ ?_
      · intro h0
        have h0' : A.plan = [] := List.eq_nil_of_length_eq_zero (by have := of_decide_eq_true h0; omega)
        have hm : A.meet true = (0, A) := by simp [Ab.meet, ← hoff, h0']
        rw [hm] at hE
        (refine go ?_)
        refine K_return hE Try.func27 rfl _ rfl ⟨_, hR, rfl, rfl⟩ ((Ent.pick [0, 1, 2, 3, 4, 5] rfl).trans (disk_c _ _ _ _ _ _ _ _ _ _ _ _ _))
      · intro h0
        obtain ⟨x, p, hxp⟩ : ∃ x p, A.plan = x :: p := by
          cases h : A.plan with
          | nil => rw [h] at h0; simp at h0
          | cons x p => exact ⟨x, p, rfl⟩
        have hm : A.meet true = if x = 1 then (6, { A with plan := p }) else if x = 2 then (7, { A with plan := p, off := true }) else (0, { A with plan := p }) := by simp [Ab.meet, ← hoff, hxp]
        have hbin : BIn arrs (.slice a A.plan.length cap) (x :: p) := by have := hR.plan; rw [hxp] at this; rw [hxp]; exact this
        have hlen : A.plan.length = p.length + 1 := by rw [hxp]; rfl
        have hsm := hR.smallP
        obtain ⟨b, o, cap', hsl⟩ := (hbin.view 5).some (by simp [bV])
        simp only [Value.slice.injEq] at hsl
        obtain ⟨rfl, _, rfl⟩ := hsl
        (refine go ?_)
        refine J_at1 (U := tab) 0 rfl rfl rfl rfl rfl rfl rfl rfl (by omega) ?_
        refine J_loadV (U := tab) 2 rfl rfl rfl (Vw.cell (cap := cap) (n := (x :: p).length) (cs := bV (x :: p)) (by rw [← hxp]; exact hR.plan.view _) (c := u8 x) (by simp [bV])) rfl rfl ?_
        (refine go ?_)
        refine J_slice (U := tab) rfl rfl rfl rfl rfl rfl rfl (by omega) (by omega) (.inl rfl) ?_
        intro o' ho1 _
        have hn : (A.plan.length : Int).toNat - (1 : Int).toNat = p.length := by omega
        rw [hn]
        have hp : BIn arrs (.slice (some ⟨b, o', none⟩) p.length (cap - (1 : Int).toNat)) p := hbin.tail o' _ (fun hne => ho1 (by
          have : 0 < p.length := List.length_pos_iff.2 hne
          omega)) (by omega)
        have hoA : A.off = false := hoff.symm
        have hR1 := hR.setPlan' hp (by omega)
        have hR2 := hR.setPlan true hp (by omega)
        clear hbin hp ho1
        (refine go ?_)
        refine K_condP rfl rfl ?_ ?_
        · intro hx
          have hx1 : x = 1 := u8_inj hx
          rw [hm, if_pos hx1] at hE
          (refine go ?_)
          refine K_return hE Try.func27 rfl _ rfl ⟨_, hR1, rfl, rfl⟩ ((Ent.pick [0, 1, 2, 3, 4, 5] rfl).trans (disk_c _ _ _ _ _ _ _ _ _ _ _ _ _))
        · intro hx
          have hx1 : x ≠ 1 := fun h => hx (by rw [h]; rfl)
          (refine go ?_)
          refine K_condP rfl rfl ?_ ?_
          · intro hy
            have hx2 : x = 2 := u8_inj hy
            rw [hm, if_neg hx1, if_pos hx2] at hE
            (refine go ?_)
            refine K_return hE Try.func27 rfl _ rfl ⟨_, hR2, rfl, rfl⟩ ((Ent.pick [0, 1, 2, 3, 4, 5] rfl).trans (disk_c _ _ _ _ _ _ _ _ _ _ _ _ _))
          · intro hy
            have hx2 : x ≠ 2 := fun h => hy (by rw [h]; rfl)
            rw [hm, if_neg hx1, if_neg hx2] at hE
            (refine go ?_)
            refine K_return hE Try.func27 rfl _ rfl ⟨_, hR1, rfl, rfl⟩ ((Ent.pick [0, 1, 2, 3, 4, 5] rfl).trans (disk_c _ _ _ _ _ _ _ _ _ _ _ _ _))

theorem alook_ptrs (l : List (ByteArray × Nat)) (name : ByteArray) : alook (ptrs l) name = (Ab.lookIn l name).map ptr := by
  unfold alook Ab.lookIn ptrs
  induction l with
  | nil => rfl
  | cons x l ih =>
    simp only [List.map_cons, List.find?_cons]
    by_cases h : x.1 = name
    · simp [h]
    · simp only [h, decide_false]; exact ih
theorem map_of_stock {G : Glob} {w : World} {H : List HP} {maps : List (Nat × List (ByteArray × Value))} {b : Nat} {es : List (ByteArray × Value)} {i : Nat} (hs : Sat G w H) (hi : getL H i = some (stock mapG maps)) (hm : (b, es) ∈ maps) :
    ∃ o, mapW Value.string o es ∧ w.heap[b]? = some o := by
  obtain ⟨h, hh, hA⟩ := hs.getA hi
  obtain ⟨h', s, hb⟩ := stock_mem hm hA
  unfold mapG mapR at hb
  obtain ⟨o, ho, hp⟩ := hb
  unfold pts at hp
  exact ⟨o, ho, hh b o (s b o (by rw [hp b]; simp))⟩
theorem kStr : KeyOk Try.prog 9 Value.string := keyStr Try.underlying9
def optPtr : Option Nat → Value
  | none => .pointer none
  | some f => ptr f

theorem find_any (bd : Nat) (D : Dk) (A : Ab) (hR : Rel D A) (name : ByteArray) (may : Bool) :
    Ctr Try.prog 31 [ptr bd, .string name, .bool may] [disk bd D] (fun v H => ∃ D', Rel D' (A.find name may).2.2 ∧ H = [disk bd D'] ∧ v = .tuple #[optPtr (A.find name may).2.1, .int .i64 (A.find name may).1]) := by
  refine Ctr.enter Try.func31 (by kernel_rfl) rfl Try.ntmps31 rfl rfl ?_
  intro G F R hE
  (refine go ?_)
  refine J_call [0] rfl rfl rfl rfl (meet_any bd D A hR may) rfl (fun _ _ _ _ _ => trivial) ?_
  rintro _ _ ⟨D', hR', rfl, rfl⟩
  (refine go ?_)
  refine K_condA rfl rfl ?_ ?_
  · intro h0
    have h0' : ¬ (A.meet may).1 = 0 := by have := of_decide_eq_true h0; omega
    have hf : A.find name may = ((A.meet may).1, none, (A.meet may).2) := by simp [Ab.find, h0']
    rw [hf] at hE
    (refine go ?_)
    refine K_return hE Try.func31 rfl _ rfl ⟨D', hR', rfl, rfl⟩ (Ent.pick [0] rfl)
  · intro h0
    have h0' : (A.meet may).1 = 0 := by have := of_decide_eq_false h0; omega
    obtain ⟨room, bm, sts, wrs, pln, off, maps, arrs, files, stb, wl⟩ := D'
    refine K_ent (disk_o _ _ _ _ _ _ _ _ _ _ _ _ _) ?_
    (refine go ?_)
    refine J_lookupOkC (U := tab) rfl kStr rfl rfl rfl rfl rfl rfl rfl (fun w hw => map_of_stock (i := 1) hw rfl hR'.names) ?_
    rw [alook_ptrs]
    cases hl : Ab.lookIn (A.meet may).2.names name with
    | none =>
      have hf : A.find name may = (4, none, (A.meet may).2) := by simp [Ab.find, h0', Ab.look, hl]
      rw [hf] at hE
      (refine go ?_)
      refine K_return hE Try.func31 rfl _ rfl ⟨_, hR', rfl, rfl⟩ ((Ent.pick [0, 1, 2, 3, 4, 5] rfl).trans (disk_c _ _ _ _ _ _ _ _ _ _ _ _ _))
    | some fl =>
      have hf : A.find name may = (0, some fl, (A.meet may).2) := by simp [Ab.find, h0', Ab.look, hl]
      rw [hf] at hE
      (refine go ?_)
      refine K_return hE Try.func31 rfl _ rfl ⟨_, hR', rfl, rfl⟩ ((Ent.pick [0, 1, 2, 3, 4, 5] rfl).trans (disk_c _ _ _ _ _ _ _ _ _ _ _ _ _))
theorem find_nodup {α : Type} {l : List (Nat × α)} (hn : (l.map (·.1)).Nodup) {i f : Nat} {x : α} (hi : l[i]? = some (f, x)) : (l.find? fun x => decide (x.1 = f)) = some (f, x) := by
  induction l generalizing i with
  | nil => simp at hi
  | cons y l ih =>
    simp only [List.map_cons, List.nodup_cons] at hn
    cases i with
    | zero => simp at hi; subst hi; simp
    | succ i =>
      simp at hi
      have hne : y.1 ≠ f := fun e => hn.1 (List.mem_map.2 ⟨_, List.mem_of_getElem? hi, e.symm⟩)
      simp only [List.find?_cons, hne, decide_false]
      exact ih hn.2 hi
theorem Rel.file {D : Dk} {A : Ab} (h : Rel D A) {f : Nat} (hf : f ∈ A.fs.map (·.1)) : ∃ (i : Nat) (v1 v2 : Value), D.files[i]? = some (f, v1, v2) ∧ A.fs[i]? = some (f, A.now f, A.sure f) ∧ BIn D.arrs v1 (A.now f) ∧ BIn D.arrs v2 (A.sure f) := by
  obtain ⟨⟨f', n, s⟩, hm, rfl⟩ := List.mem_map.1 hf
  obtain ⟨i, hi⟩ := List.getElem?_of_mem hm
  obtain ⟨⟨f2, v1, v2⟩, hx, h1, h2, h3⟩ := h.fs.right hi
  simp only at h1 h2 h3
  subst h1
  have hfile : A.file f2 = (n, s) := by unfold Ab.file; rw [find_nodup h.ids hi]; rfl
  refine ⟨i, v1, v2, hx, ?_, ?_, ?_⟩
  · rw [hi]; simp [Ab.now, Ab.sure, hfile]
  · simpa [Ab.now, hfile] using h2
  · simpa [Ab.sure, hfile] using h3
theorem Rel.small {D : Dk} {A : Ab} (h : Rel D A) (f : Nat) : (A.now f).length ≤ 1048576 ∧ (A.sure f).length ≤ 1048576 := by
  unfold Ab.now Ab.sure Ab.file
  cases hf : A.fs.find? fun x => decide (x.1 = f) with
  | none => simp
  | some x => simpa using h.smallF x (List.mem_of_find?_eq_some hf)
theorem file_cells {G : Glob} {w : World} {H : List HP} {files : List (Nat × Value × Value)} {f : Nat} {v1 v2 : Value} {i j : Nat} (hs : Sat G w H) (hi : getL H i = some (stock fileG files)) (hm : files[j]? = some (f, v1, v2)) :
    w.heap[f]? = some (cl [v1, v2] 69) := by
  obtain ⟨h, hh, hA⟩ := hs.getA hi
  obtain ⟨h', s, hb⟩ := stock_mem (List.mem_of_getElem? hm) hA
  unfold fileG pts at hb
  exact hh f _ (s f _ (by rw [hb f]; simp))
theorem file_now {G : Glob} {w : World} {H : List HP} {files : List (Nat × Value × Value)} {f : Nat} {v1 v2 : Value} {i j : Nat} (hs : Sat G w H) (hi : getL H i = some (stock fileG files)) (hm : files[j]? = some (f, v1, v2)) :
    w.cell? ⟨f, 0, none⟩ = some v1 := by rw [cell_of_block (file_cells hs hi hm)]; rfl
theorem file_sure {G : Glob} {w : World} {H : List HP} {files : List (Nat × Value × Value)} {f : Nat} {v1 v2 : Value} {i j : Nat} (hs : Sat G w H) (hi : getL H i = some (stock fileG files)) (hm : files[j]? = some (f, v1, v2)) :
    w.cell? ⟨f, 1, none⟩ = some v2 := by rw [cell_of_block (file_cells hs hi hm)]; rfl
theorem lookIn_mem {l : List (ByteArray × Nat)} {k : ByteArray} {f : Nat} (hn : (l.map (·.1)).Nodup) (h : (k, f) ∈ l) : Ab.lookIn l k = some f := by
  obtain ⟨i, hi⟩ := List.getElem?_of_mem h
  have : alook (l.map fun x => (x.1, Value.int .i64 x.2)) k = some (.int .i64 f) := alook_get (i := i) (by simp [hi]) (fun j hj he => by
    rw [List.map_map] at he
    have h1 : (l.map (·.1))[j]? = (l.map (·.1))[i]? := by
      have e : (List.map ((fun x => x.1) ∘ fun x => (x.1, Value.int IntKind.i64 (x.2 : Nat))) l) = l.map (·.1) := rfl
      rw [e] at he
      rw [he]; simp [hi]
    have := (List.getElem?_inj (by
      rcases Nat.lt_or_ge j (l.map (·.1)).length with h | h
      · exact h
      · rw [List.getElem?_eq_none h] at h1; simp [hi] at h1) hn).1 h1
    omega)
  unfold alook at this
  unfold Ab.lookIn
  rw [List.find?_map] at this
  simp only [Option.map_map] at this
  cases hx : l.find? fun x => decide (x.1 = k) with
  | none => have e : (l.find? ((fun x => decide (x.1 = k)) ∘ fun x => (x.1, Value.int IntKind.i64 (x.2 : Nat)))) = none := hx
            rw [e] at this; cases this
  | some y => 
    have e : (l.find? ((fun x => decide (x.1 = k)) ∘ fun x => (x.1, Value.int IntKind.i64 (x.2 : Nat)))) = some y := hx
    rw [e] at this
    have h2 : ((y.2 : Nat) : Int) = f := by simpa using this
    rw [Option.map_some, show y.2 = f by omega]
theorem lookIn_some {l : List (ByteArray × Nat)} {k : ByteArray} {f : Nat} (h : Ab.lookIn l k = some f) : (k, f) ∈ l := by
  unfold Ab.lookIn at h
  cases hx : l.find? fun x => decide (x.1 = k) with
  | none => rw [hx] at h; cases h
  | some y =>
    rw [hx] at h
    have h1 := List.find?_some hx
    simp only [decide_eq_true_eq] at h1
    simp only [Option.map_some, Option.some.injEq] at h
    have := List.mem_of_find?_eq_some hx
    rwa [← h1, ← h]
end Go.Proofs.Ytokknepnmfklnaa
