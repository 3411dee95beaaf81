/- files, part l: a disk that nothing ails: what each change makes of the room. -/
import Derived.Test.YtokknepnmfklnaaFj
import Derived.Test.YtokknepnmfklnaaFh
set_option linter.unusedVariables false
set_option linter.unusedSimpArgs false
namespace Go.Proofs.Ytokknepnmfklnaa
open Go Go.SL
attribute [local irreducible] J K Ctr Ends pts slc mapR mapI sbRow stock arrS

structure Still (A : Ab) (rm k : Nat) : Prop where
  room : A.room = rm
  plan : A.plan = []
  off : A.off = false
  used : A.used ≤ rm
  ids : (A.names.map (·.2)).Nodup
  states : A.states.length ≤ k + 1
  writes : A.writes.length ≤ k
theorem Still.mono {A : Ab} {room k k' : Nat} (h : Still A room k) (hk : k ≤ k') : Still A room k' := ⟨h.room, h.plan, h.off, h.used, h.ids, by have := h.states; omega, by have := h.writes; omega⟩
theorem Still.meet {A : Ab} {room k : Nat} (h : Still A room k) (ok : Bool) : A.meet ok = (if ok then 0 else 1, A) := by
  cases ok <;> simp [Ab.meet, h.off, h.plan]
theorem Still.find {A : Ab} {room k : Nat} (h : Still A room k) (name : ByteArray) (ok : Bool) : A.find name ok = if ok then (match A.look name with | none => (4, none, A) | some f => (0, some f, A)) else (1, none, A) := by
  cases ok with
  | false => simp [Ab.find, h.meet]
  | true => simp only [Ab.find, h.meet, if_true]; cases A.look name <;> rfl
theorem still_new (room : Nat) : Still (Ab.new room) room 0 := ⟨rfl, rfl, rfl, by simp [Ab.new, Ab.used], by simp [Ab.new], by simp [Ab.new], by simp [Ab.new]⟩
theorem now_cons {A : Ab} {f g : Nat} {x : List UInt8 × List UInt8} : ({ A with fs := (f, x) :: A.fs } : Ab).now g = if f = g then x.1 else A.now g := by
  simp only [Ab.now, Ab.file, List.find?_cons]
  by_cases h : f = g
  · simp [h]
  · simp [h]
theorem create_still {A : Ab} {room k : Nat} (h : Still A room k) (hk : ∀ x ∈ A.names, x.2 ∈ A.fs.map (·.1)) (ok : Bool) (name : ByteArray) {f : Nat} (hf : f ∉ A.fs.map (·.1)) : Still (A.create ok name f).2 room (k + 1) := by
  unfold Ab.create
  rw [h.meet]
  cases ok with
  | false => exact h.mono (by omega)
  | true =>
    simp only [if_true]
    split
    · exact h.mono (by omega)
    split
    · exact h.mono (by omega)
    · refine ⟨h.room, h.plan, h.off, ?_, ?_, by have := h.states; simp [Ab.chg]; omega, by have := h.writes; simp [Ab.chg]; omega⟩
      · have hu : ({ A.chg (A.names ++ [(name, f)]) with fs := (f, [], []) :: A.fs } : Ab).used = A.used := by
          simp only [Ab.used, Ab.chg, List.map_append, List.sum_append, List.map_cons, List.map_nil, List.sum_cons, List.sum_nil]
          have h1 : ∀ g, ({ A.chg (A.names ++ [(name, f)]) with fs := (f, [], []) :: A.fs } : Ab).now g = if f = g then [] else A.now g := fun g => now_cons (A := A.chg (A.names ++ [(name, f)]))
          have h2 : (A.names.map fun x => (({ A.chg (A.names ++ [(name, f)]) with fs := (f, [], []) :: A.fs } : Ab).now x.2).length) = A.names.map fun x => (A.now x.2).length := by
            apply List.map_congr_left
            intro x hx
            rw [h1, if_neg (fun e : f = x.2 => hf (by rw [e]; exact hk x hx))]
          have h3 : (({ A.chg (A.names ++ [(name, f)]) with fs := (f, [], []) :: A.fs } : Ab).now f).length = 0 := by rw [h1]; simp
          simp only [Ab.chg] at h2 h3
          rw [h2, h3]
          omega
        rw [hu]; exact h.used
      · simp only [Ab.chg, List.map_append, List.map_cons, List.map_nil]
        rw [List.nodup_append]
        refine ⟨h.ids, by simp, fun a ha b hb => ?_⟩
        simp at hb
        subst hb
        obtain ⟨x, hx, rfl⟩ := List.mem_map.1 ha
        exact fun e => hf (by have := hk x hx; rw [e] at this; exact this)
theorem sum_filter_le (l : List (ByteArray × Nat)) (p : ByteArray × Nat → Bool) (g : ByteArray × Nat → Nat) : ((l.filter p).map g).sum ≤ (l.map g).sum := by
  induction l with
  | nil => simp
  | cons x l ih =>
    simp only [List.filter_cons]
    split <;> simp only [List.map_cons, List.sum_cons] <;> omega
theorem remove_still {A : Ab} {room k : Nat} (h : Still A room k) (ok : Bool) (name : ByteArray) : Still (A.remove ok name).2 room (k + 1) := by
  unfold Ab.remove
  rw [h.find]
  cases ok with
  | false => exact h.mono (by omega)
  | true =>
    simp only [if_true]
    cases hl : A.look name with
    | none => exact h.mono (by omega)
    | some f =>
      refine ⟨h.room, h.plan, h.off, ?_, ?_, by have := h.states; simp [Ab.chg]; omega, by have := h.writes; simp [Ab.chg]; omega⟩
      · have := h.used
        refine Nat.le_trans ?_ this
        exact sum_filter_le A.names _ fun x => (A.now x.2).length
      · exact (List.filter_sublist.map _).nodup h.ids
theorem now_upd (A : Ab) (f g : Nat) (n : List UInt8) (hg : g ∈ A.fs.map (·.1)) : ({ A with fs := Ab.upd A.fs f n } : Ab).now g = if g = f then n else A.now g := by
  simp only [Ab.now, Ab.file]
  suffices h : ∀ fs : List (Nat × List UInt8 × List UInt8), g ∈ fs.map (·.1) → ((((Ab.upd fs f n).find? fun x => decide (x.1 = g)).map (·.2)).getD ([], [])).1 = if g = f then n else (((fs.find? fun x => decide (x.1 = g)).map (·.2)).getD ([], [])).1 from h A.fs hg
  intro fs
  induction fs with
  | nil => intro h; simp at h
  | cons x l ih =>
    intro h
    simp only [List.map_cons, List.mem_cons] at h
    simp only [Ab.upd, List.map_cons, List.find?_cons]
    by_cases hx : x.1 = g
    · subst hx
      by_cases hf : x.1 = f
      · simp [hf]
      · simp [hf]
    · have h' : g ∈ l.map (·.1) := h.resolve_left (fun e => hx e.symm)
      have hne : (if x.1 = f then (x.1, n, x.2.2) else x).1 = x.1 := by split <;> rfl
      simp only [hne, hx, decide_false]
      exact ih h'
theorem sum_one {l : List (ByteArray × Nat)} (hn : (l.map (·.2)).Nodup) {k : ByteArray} {f : Nat} (h : (k, f) ∈ l) (g : Nat → Nat) (v : Nat) : (l.map fun x => if x.2 = f then v else g x.2).sum + g f = (l.map fun x => g x.2).sum + v := by
  induction l with
  | nil => simp at h
  | cons x l ih =>
    simp only [List.map_cons, List.nodup_cons] at hn
    simp only [List.map_cons, List.sum_cons]
    rcases List.mem_cons.1 h with rfl | h'
    · simp only [if_true]
      have : (l.map fun x => if x.2 = f then v else g x.2) = l.map fun x => g x.2 := by
        apply List.map_congr_left
        intro y hy
        rw [if_neg (fun e => hn.1 (List.mem_map.2 ⟨y, hy, e⟩))]
      rw [this]; omega
    · have hne : x.2 ≠ f := fun e => hn.1 (List.mem_map.2 ⟨_, h', e.symm⟩)
      rw [if_neg hne]
      have := ih hn.2 h'
      omega
theorem write_still {A : Ab} {room k : Nat} (h : Still A room k) (hk : ∀ x ∈ A.names, x.2 ∈ A.fs.map (·.1)) (ok : Bool) (name : ByteArray) (at_ : Nat) (b : List UInt8) :
    ((A.write ok name at_ b).1 ≠ 0 ∧ (A.write ok name at_ b).2 = A) ∨
    ((A.write ok name at_ b).1 = 0 ∧ ok = true ∧ (A.size name).2 = 0 ∧ (A.write ok name at_ b).2.size name = (max (A.size name).1 (at_ + b.length), 0) ∧ Still (A.write ok name at_ b).2 room (k + 1)) := by
  have hf := h.find name ok
  cases ok with
  | false => left; simp [Ab.write, hf]
  | true =>
    simp only [if_true] at hf
    cases hl : A.look name with
    | none => left; simp [Ab.write, hf, hl]
    | some f =>
      rw [hl] at hf
      simp only at hf
      have hw : A.write true name at_ b = if A.room < A.used + (at_ + b.length - (A.now f).length) then (3, A) else (0, { A with fs := Ab.upd A.fs f (wroteL (A.now f) at_ b), writes := A.writes ++ [(f, at_, b)] }) := by simp [Ab.write, hf]
      by_cases hr : A.room < A.used + (at_ + b.length - (A.now f).length)
      · left; rw [hw, if_pos hr]; simp
      · right
        rw [hw, if_neg hr]
        have hmem := lookIn_some hl
        have hnow : ∀ g ∈ A.fs.map (·.1), ({ A with fs := Ab.upd A.fs f (wroteL (A.now f) at_ b), writes := A.writes ++ [(f, at_, b)] } : Ab).now g = if g = f then wroteL (A.now f) at_ b else A.now g := fun g hg => now_upd A f g _ hg
        have hlen := wroteL_len (A.now f) at_ b
        refine ⟨rfl, rfl, by simp [Ab.size, hl], ?_, h.room, h.plan, h.off, ?_, h.ids, by have := h.states; simp; omega, by have := h.writes; simp; omega⟩
        · have hl' : ({ A with fs := Ab.upd A.fs f (wroteL (A.now f) at_ b), writes := A.writes ++ [(f, at_, b)] } : Ab).look name = some f := hl
          simp only [Ab.size, hl', hl]
          rw [hnow f (hk _ hmem), if_pos rfl, hlen]
        · have h1 := sum_one h.ids hmem (fun g => (A.now g).length) (wroteL (A.now f) at_ b).length
          have h2 : ({ A with fs := Ab.upd A.fs f (wroteL (A.now f) at_ b), writes := A.writes ++ [(f, at_, b)] } : Ab).used = (A.names.map fun x => if x.2 = f then (wroteL (A.now f) at_ b).length else (A.now x.2).length).sum := by
            unfold Ab.used
            congr 1
            apply List.map_congr_left
            intro x hx
            rw [hnow x.2 (hk x hx)]
            split <;> rfl
          have h3 : (A.names.map fun x => (A.now x.2).length).sum = A.used := rfl
          have h4 := h.room
          rw [h2]
          omega
end Go.Proofs.Ytokknepnmfklnaa
