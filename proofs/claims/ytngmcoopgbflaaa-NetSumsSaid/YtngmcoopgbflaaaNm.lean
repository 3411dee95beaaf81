/- net, part m: Spoil. -/
import Derived.Test.YtngmcoopgbflaaaNl
set_option linter.unusedVariables false
set_option linter.unusedSimpArgs false
namespace Go.Proofs.Ytngmcoopgbflaaa
open Go Go.SL
attribute [local irreducible] J K Ctr Ends pts slc mapR mapI sbRow stock arrS

/-- A byte turned by another. -/
def xorB (x t : UInt8) : UInt8 := UInt8.ofNat (IntKind.u8.wrap ((BitVec.ofInt IntKind.u8.bits (x.toNat : Int) ^^^ BitVec.ofInt IntKind.u8.bits (t.toNat : Int)).toNat : Int)).toNat
theorem xorB_val (x t : UInt8) : Value.int .u8 (IntKind.u8.wrap ((BitVec.ofInt IntKind.u8.bits (x.toNat : Int) ^^^ BitVec.ofInt IntKind.u8.bits (t.toNat : Int)).toNat : Int)) = u8 (xorB x t) := by
  obtain ⟨y, hy⟩ := wrap_u8 ((BitVec.ofInt IntKind.u8.bits (x.toNat : Int) ^^^ BitVec.ofInt IntKind.u8.bits (t.toNat : Int)).toNat : Int)
  have h1 : IntKind.u8.wrap ((BitVec.ofInt IntKind.u8.bits (x.toNat : Int) ^^^ BitVec.ofInt IntKind.u8.bits (t.toNat : Int)).toNat : Int) = (y.toNat : Int) := by simpa [u8] using hy
  unfold xorB
  rw [h1, Int.toNat_natCast]
  show Value.int .u8 (y.toNat : Int) = Value.int .u8 _
  simp
def spoilB (bs : List UInt8) (at_ : Nat) (t : UInt8) : List UInt8 := if bs.length = 0 then bs else bs.set (at_ % bs.length) (xorB (bs.getD (at_ % bs.length) 0) t)
theorem spoilB_len (bs : List UInt8) (at_ : Nat) (t : UInt8) : (spoilB bs at_ t).length = bs.length := by unfold spoilB; split <;> simp
def NA.spoil (A : NA) (i at_ : Int) (t : UInt8) : Int × NA :=
  if ¬ (0 ≤ i ∧ i < (A.way.length : Int)) then (4, A) else if at_ < 0 then (1, A) else (0, { A with way := A.way.set i.toNat { (A.way.getD i.toNat ⟨0, 0, 0, 0, []⟩) with bs := spoilB (A.way.getD i.toNat ⟨0, 0, 0, 0, []⟩).bs at_.toNat t } })
theorem set_flat {wl : List Fl} {q : Nat} {x x' : Fl} (hx : wl[q]? = some x) (he : fcell x' = fcell x) : (wl.set q x').flatMap fcell = wl.flatMap fcell := by
  have : (wl.set q x').map fcell = wl.map fcell := by
    rw [List.map_set, he]
    apply List.ext_getElem?
    intro j
    rw [List.getElem?_set]
    split
    · rename_i h; subst h
      rw [List.getElem?_map, hx]
      split
      · rfl
      · rename_i h1
        rw [List.length_map] at h1
        rw [List.getElem?_eq_none (by omega)] at hx; cases hx
    · rfl
  rw [List.flatMap_def, List.flatMap_def, this]
theorem NOk.set {D : NetD} {k : Nat} (h : NOk D k) {q : Nat} {x x' : Fl} (hx : D.wl[q]? = some x) (h1 : x'.num = x.num) (h2 : x'.due = x.due) (h3 : x'.v = x.v) (h4 : x'.bs.length = x.bs.length) : NOk ⟨D.nodes, D.most, D.sent, D.lost, D.way, D.wl.set q x'⟩ k := by
  have hmem : ∀ y ∈ D.wl.set q x', y = x' ∨ y ∈ D.wl := fun y hy => (List.mem_or_eq_of_mem_set hy).symm
  have hxm := List.mem_of_getElem? hx
  have hnum : (D.wl.set q x').map Fl.num = D.wl.map Fl.num := by
    rw [List.map_set, h1]
    apply List.ext_getElem?
    intro j
    rw [List.getElem?_set]
    split
    · rename_i h; subst h; rw [List.getElem?_map, hx]; split
      · rfl
      · rename_i h1; rw [List.length_map] at h1; rw [List.getElem?_eq_none (by omega)] at hx; cases hx
    · rfl
  refine ⟨h.nodes, h.most, by simp only [List.length_set]; exact h.len, ?_, h.sent, h.lost, ?_, by simp only; rw [hnum]; exact h.nodup, ?_, ?_, h.kk⟩
  · have hkey : ∀ (l l' : List Fl), (l.map fun x => (x.due, x.num)) = (l'.map fun x => (x.due, x.num)) → Sorted (l.map Fl.a) → Sorted (l'.map Fl.a) := by
      intro l l' he hs
      have e : ∀ l : List Fl, Sorted (l.map Fl.a) ↔ (l.map fun x => (x.due, x.num)).Pairwise (fun a b => a.1 < b.1 ∨ (a.1 = b.1 ∧ a.2 < b.2)) := fun l => by
        unfold Sorted; rw [List.pairwise_map, List.pairwise_map]; exact Iff.rfl
      rw [e] at hs ⊢
      rw [← he]; exact hs
    refine hkey D.wl _ ?_ h.srt
    rw [List.map_set, h1, h2]
    symm
    apply List.ext_getElem?
    intro j
    rw [List.getElem?_set]
    split
    · rename_i h; subst h; rw [List.getElem?_map, hx]; split
      · rfl
      · rename_i h1; rw [List.length_map] at h1; rw [List.getElem?_eq_none (by omega)] at hx; cases hx
    · rfl
  · intro y hy
    rcases hmem y hy with rfl | hy
    · rw [h1]; exact h.nums x hxm
    · exact h.nums y hy
  · intro y hy
    rcases hmem y hy with rfl | hy
    · rw [h4]; exact h.bytes x hxm
    · exact h.bytes y hy
  · intro y hy
    rcases hmem y hy with rfl | hy
    · rw [h3, h4]; exact h.vs x hxm
    · exact h.vs y hy
set_option maxRecDepth 20000 in
theorem Spoil_any (bn k : Nat) (D : NetD) (hD : NOk D k) (i at_ : Int) (t : UInt8) :
    Ctr Try.prog 11 [ptr bn, .int .i64 i, .int .i64 at_, u8 t] [nt bn D]
      (fun v H => ∃ D', NOk D' k ∧ D'.a = (D.a.spoil i at_ t).2 ∧ v = .int .i64 (D.a.spoil i at_ t).1 ∧ H = [nt bn D']) := by
  obtain ⟨nodes, most, sent, lost, way, wl⟩ := D
  have hlen := hD.len
  have hmo := hD.most
  simp only at hlen hmo
  refine Ctr.enter Try.func11 (by kernel_rfl) rfl Try.ntmps11 rfl rfl ?_
  intro G F R hE
  refine K_ent (nt_o _ _ _ _ _ _ _ _) ?_
  refine K_shape 1 rfl ?_
  rintro wa wc rfl
  (refine go ?_)
  refine J_call [0] rfl rfl rfl rfl (at_any bn nodes most sent lost wa wl.length wc i) rfl (fun _ _ _ _ _ => trivial) ?_
  rintro _ _ ⟨rfl, rfl⟩
  have hal : (NetD.a ⟨nodes, most, sent, lost, .slice wa wl.length wc, wl⟩).way.length = wl.length := by simp [NetD.a]
  by_cases h1 : 0 ≤ i ∧ i < (wl.length : Int)
  case' neg =>
    have hdb : (NetD.a ⟨nodes, most, sent, lost, .slice wa wl.length wc, wl⟩).spoil i at_ t = (4, NetD.a ⟨nodes, most, sent, lost, .slice wa wl.length wc, wl⟩) := by unfold NA.spoil; rw [hal, if_pos h1]
    rw [hdb] at hE
    refine J_slot 13 (.bool false) rfl (congrArg Value.bool (decide_eq_false h1)) ?_
    (refine go ?_)
    refine K_ent (nt_c bn nodes most sent lost _ wl _) ?_
    refine K_return hE Try.func11 rfl _ rfl ⟨_, hD, rfl, rfl, rfl⟩ (Ent.fin [0] 0 rfl rfl)
  refine J_slot 13 (.bool true) rfl (congrArg Value.bool (decide_eq_true h1)) ?_
  (refine go ?_)
  refine K_condP rfl rfl ?_ ?_
  · intro hneg
    have hdb : (NetD.a ⟨nodes, most, sent, lost, .slice wa wl.length wc, wl⟩).spoil i at_ t = (1, NetD.a ⟨nodes, most, sent, lost, .slice wa wl.length wc, wl⟩) := by unfold NA.spoil; rw [hal, if_neg (fun h => h h1), if_pos hneg]
    rw [hdb] at hE
    (refine go ?_)
    refine K_ent (nt_c bn nodes most sent lost _ wl _) ?_
    refine K_return hE Try.func11 rfl _ rfl ⟨_, hD, rfl, rfl, rfl⟩ (Ent.fin [0] 0 rfl rfl)
  · intro hpos
    obtain ⟨q, rfl⟩ := Int.eq_ofNat_of_zero_le (a := i) h1.1
    obtain ⟨p, rfl⟩ := Int.eq_ofNat_of_zero_le (a := at_) (by omega)
    have hq : q < wl.length := by omega
    obtain ⟨x, hx⟩ : ∃ x, wl[q]? = some x := ⟨wl[q], by simp⟩
    have hxm := List.mem_of_getElem? hx
    obtain ⟨va, vc, hxv⟩ := hD.vs x hxm
    have hxb := hD.bytes x hxm
    have hdb : (NetD.a ⟨nodes, most, sent, lost, .slice wa wl.length wc, wl⟩).spoil q p t = (0, ⟨nodes, most, sent, lost, (wl.map Fl.a).set q { x.a with bs := spoilB x.bs p t }⟩) := by
      unfold NA.spoil; rw [hal, if_neg (fun h => h h1), if_neg hpos]
      simp [NetD.a, List.getD_eq_getElem?_getD, hx, Fl.a]
    rw [hdb] at hE
    refine K_slcF 1 rfl (by omega) ?_
    rintro ba oa ca hsl _ _ hvw
    simp only [Value.slice.injEq, true_and] at hsl
    obtain ⟨rfl, rfl⟩ := hsl
    obtain ⟨x', hx'⟩ : ∃ x' : Fl, x' = ⟨x.num, x.src, x.dst, x.due, x.v, spoilB x.bs p t⟩ := ⟨_, rfl⟩
    have hfe : fcell x' = fcell x := by rw [hx']; rfl
    have hD2 := hD.set hx (x' := x') (by rw [hx']) (by rw [hx']) (by rw [hx']) (by rw [hx']; exact spoilB_len _ _ _)
    have hDa : (NetD.a ⟨nodes, most, sent, lost, .slice (some ⟨ba, oa, none⟩) wl.length wc, wl.set q x'⟩) = ⟨nodes, most, sent, lost, (wl.map Fl.a).set q { x.a with bs := spoilB x.bs p t }⟩ := by
      simp only [NetD.a, List.map_set]; rw [hx']; rfl
    have hws : ws (.slice (some ⟨ba, oa, none⟩) wl.length wc) wl = ws (.slice (some ⟨ba, oa, none⟩) wl.length wc) (wl.set q x') := by
      unfold ws; rw [List.length_set, set_flat hx hfe]
    (refine go ?_)
    refine J_at (U := tab) q 5 rfl rfl rfl rfl rfl rfl rfl rfl hq ?_
    (refine go ?_)
    refine J_loadAt (U := tab) 1 (q * 5 + 4) rfl rfl rfl hvw (Nat.add_assoc _ _ _) (fcell_get hx 4 (.slice va x.bs.length vc) (by rw [← hxv]; rfl)) rfl rfl ?_
    (refine go ?_)
    refine K_condP rfl rfl ?_ ?_
    · intro hb0
      refine K_ent (Ent.pick [2] rfl) ?_
      refine K_ent (stock_out flB hx _) ?_
      rw [show flB x = slc 5 1 (.slice va x.bs.length vc) x.bs.length (bV x.bs) from by unfold flB; rw [hxv]]
      refine K_slcF 0 rfl (by omega) ?_
      rintro bb ob cb hsl2 _ _ hvb
      simp only [Value.slice.injEq, true_and] at hsl2
      obtain ⟨rfl, rfl⟩ := hsl2
      have hpl : p % x.bs.length < x.bs.length := Nat.mod_lt _ (by omega)
      obtain ⟨y, hy⟩ : ∃ y, x.bs[p % x.bs.length]? = some y := ⟨x.bs[p % x.bs.length], by simp⟩
      have hsb : spoilB x.bs p t = x.bs.set (p % x.bs.length) (xorB y t) := by
        unfold spoilB; rw [if_neg (by omega), List.getD_eq_getElem?_getD, hy]; rfl
      (refine go ?_)
      refine J_rem rfl rfl rfl (by omega) (by omega) ?_
      refine J_slot 33 (.int .i64 ((p % x.bs.length : Nat) : Int)) rfl (congrArg (Value.int .i64) (by omega)) ?_
      (refine go ?_)
      refine J_at1 (U := tab) (p % x.bs.length) rfl rfl rfl rfl rfl rfl rfl rfl hpl ?_
      refine J_loadAt (U := tab) 0 (p % x.bs.length) rfl rfl rfl hvb rfl (bV_get hy) rfl rfl ?_
      (refine go ?_)
      refine J_slot 37 (u8 (xorB y t)) rfl (xorB_val y t) ?_
      refine J_at1 (U := tab) (p % x.bs.length) rfl rfl rfl rfl rfl rfl rfl rfl hpl ?_
      refine J_storeSlc (U := tab) (q := p % x.bs.length) 0 (fun _ _ => trivial) rfl rfl rfl rfl rfl rfl rfl hpl rfl ?_
      rw [bV_set, ← hsb]
      (refine go ?_)
      rw [show slc 5 1 (.slice (some ⟨bb, ob, none⟩) x.bs.length vc) x.bs.length (bV (spoilB x.bs p t)) = flB x' from by
        unfold flB; rw [hx']; simp only; rw [hxv, spoilB_len]]
      refine K_ent (stock_set flB hx _) ?_
      rw [hws]
      refine K_ent (Ent.pick [1, 2, 0] rfl) ?_
      have hcl := nt_c bn nodes most sent lost (.slice (some ⟨ba, oa, none⟩) wl.length wc) (wl.set q x')
      refine K_ent (hcl _) ?_
      refine K_return hE Try.func11 rfl _ rfl ⟨_, hD2, hDa, rfl, rfl⟩ (Ent.fin [0] 0 rfl rfl)
    · intro hb0
      have hb00 : x.bs.length = 0 := by omega
      have hxx : x' = x := by
        rw [hx']; unfold spoilB; rw [if_pos hb00]
      have hse : wl.set q x' = wl := by
        rw [hxx]
        apply List.ext_getElem?
        intro j
        rw [List.getElem?_set]
        split
        · rename_i h; subst h; exact hx.symm
        · rfl
      rw [hse] at hD2 hDa
      (refine go ?_)
      refine K_ent (nt_c bn nodes most sent lost _ wl _) ?_
      refine K_return hE Try.func11 rfl _ rfl ⟨_, hD2, hDa, rfl, rfl⟩ (Ent.fin [0] 0 rfl rfl)
end Go.Proofs.Ytngmcoopgbflaaa
