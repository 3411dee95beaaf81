/- net, part f: the net; fresh. -/
import Derived.Test.YtngmcoopgbflaaaNe
import Derived.Test.YtngmcoopgbflaaaEngP
set_option linter.unusedVariables false
set_option linter.unusedSimpArgs false
namespace Go.Proofs.Ytngmcoopgbflaaa
open Go Go.SL
attribute [local irreducible] J K Ctr Ends pts slc mapR mapI sbRow stock arrS

def flB (x : Fl) : HP := slc 5 1 x.v x.bs.length (bV x.bs)
structure NetD where
  nodes : Nat
  most : Nat
  sent : Nat
  lost : Nat
  way : Value
  wl : List Fl
def nt (bn : Nat) (D : NetD) : HP := Sep [pn bn D.nodes D.most D.way D.sent D.lost, ws D.way D.wl, stock flB D.wl]
theorem nt_o (bn nodes most sent lost : Nat) (way : Value) (wl : List Fl) (H : List HP) : Ent (nt bn ⟨nodes, most, sent, lost, way, wl⟩ :: H) (pn bn nodes most way sent lost :: ws way wl :: stock flB wl :: H) := Ent.unsep [_, _, _] H
theorem nt_c (bn nodes most sent lost : Nat) (way : Value) (wl : List Fl) (H : List HP) : Ent (pn bn nodes most way sent lost :: ws way wl :: stock flB wl :: H) (nt bn ⟨nodes, most, sent, lost, way, wl⟩ :: H) := Ent.resep [_, _, _] H
structure NA where
  nodes : Nat
  most : Nat
  sent : Nat
  lost : Nat
  way : List Fa
def NetD.a (D : NetD) : NA := ⟨D.nodes, D.most, D.sent, D.lost, D.wl.map Fl.a⟩
def NA.fresh (A : NA) (f : Fa) : NA :=
  if A.most < (insA { f with num := (A.sent : Int) + 1 } A.way).length then { A with sent := A.sent + 1, way := (insA { f with num := (A.sent : Int) + 1 } A.way).take A.most, lost := A.lost + 1 }
  else { A with sent := A.sent + 1, way := insA { f with num := (A.sent : Int) + 1 } A.way }
/-- What holds of a net. -/
structure NOk (D : NetD) (k : Nat) : Prop where
  nodes : D.nodes ≤ 65537
  most : D.most ≤ 5000
  len : D.wl.length ≤ D.most
  srt : Sorted (D.wl.map Fl.a)
  sent : D.sent ≤ k
  lost : D.lost ≤ k
  nums : ∀ x ∈ D.wl, x.num ≤ D.sent
  nodup : (D.wl.map Fl.num).Nodup
  bytes : ∀ x ∈ D.wl, x.bs.length ≤ 20000
  vs : ∀ x ∈ D.wl, ∃ a c, x.v = .slice a x.bs.length c
  kk : k ≤ 1000000
theorem NOk.one {D : NetD} {k : Nat} (h : NOk D k) : OneV D.wl := fun x hx => by obtain ⟨a, c, hv⟩ := h.vs x hx; rw [hv]; rfl
theorem insA_sorted {f : Fa} {l : List Fa} (hs : Sorted l) (hne : ∀ x ∈ l, ltA x f ∨ ltA f x) : Sorted (insA f l) := by
  unfold insA
  have hall : ∀ x ∈ l.takeWhile (fun x => decide (ltA x f)), ltA x f := fun x hx => by
    have := takeWhile_all l (P := fun x => decide (ltA x f)) x hx; simpa using this
  have hdrop : ∀ x ∈ l.dropWhile (fun x => decide (ltA x f)), ltA f x := by
    have hsub := List.dropWhile_sublist (l := l) (fun x => decide (ltA x f))
    have hsd := hs.sublist hsub
    intro x hx
    cases hd : l.dropWhile (fun x => decide (ltA x f)) with
    | nil => rw [hd] at hx; cases hx
    | cons y ys =>
      have hy : ¬ ltA y f := by
        have := List.head?_dropWhile_not (fun x => decide (ltA x f)) l
        rw [hd] at this
        simpa using this
      have hyf : ltA f y := (hne y (hsub.subset (by rw [hd]; exact List.mem_cons_self ..))).resolve_left hy
      rw [hd] at hx hsd
      rcases List.mem_cons.1 hx with rfl | hx
      · exact hyf
      · exact ltA_trans hyf ((List.pairwise_cons.1 hsd).1 x hx)
  refine List.pairwise_append.2 ⟨hs.sublist (List.takeWhile_sublist _), List.pairwise_cons.2 ⟨hdrop, hs.sublist (List.dropWhile_sublist _)⟩, ?_⟩
  intro x hx y hy
  rcases List.mem_cons.1 hy with rfl | hy
  · exact hall x hx
  · exact ltA_trans (hall x hx) (hdrop y hy)
theorem insA_perm (f : Fa) (l : List Fa) : (insA f l).Perm (f :: l) := by
  unfold insA
  exact List.perm_middle.trans (by rw [List.takeWhile_append_dropWhile])
theorem insA_len (f : Fa) (l : List Fa) : (insA f l).length = l.length + 1 := (insA_perm f l).length_eq
end Go.Proofs.Ytngmcoopgbflaaa
