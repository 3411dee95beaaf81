/- files, part h: plain laws of a disk with one file; awake. -/
import Derived.Test.YtokknepnmfklnaaFg
set_option linter.unusedVariables false
set_option linter.unusedSimpArgs false
namespace Go.Proofs.Ytokknepnmfklnaa
open Go Go.SL
attribute [local irreducible] J K Ctr Ends pts slc mapR mapI sbRow stock arrS

/-- A disk with one file. -/
def one (room : Nat) (name : ByteArray) (f : Nat) (now sure : List UInt8) (st : List (List (ByteArray × Nat))) (wr : List (Nat × Nat × List UInt8)) : Ab := ⟨room, [(f, now, sure)], [(name, f)], st, wr, [], false⟩
theorem new_create (room : Nat) (name : ByteArray) (f : Nat) : (Ab.new room).create true name f = (0, one room name f [] [] [[], [(name, f)]] []) := by
  simp [Ab.create, Ab.new, Ab.meet, Ab.look, Ab.lookIn, Ab.chg, one]
theorem one_write (room : Nat) (name : ByteArray) (f : Nat) (now sure : List UInt8) (st : List (List (ByteArray × Nat))) (wr : List (Nat × Nat × List UInt8)) (at_ : Nat) (b : List UInt8) (hroom : now.length + (at_ + b.length - now.length) ≤ room) :
    (one room name f now sure st wr).write true name at_ b = (0, one room name f (wroteL now at_ b) sure st (wr ++ [(f, at_, b)])) := by
  have hf : (one room name f now sure st wr).find name true = (0, some f, one room name f now sure st wr) := by simp [Ab.find, Ab.meet, Ab.look, Ab.lookIn, one]
  simp only [Ab.write, hf, if_true]
  rw [if_neg (by simp [one, Ab.used, Ab.now, Ab.file]; omega)]
  simp [one, Ab.upd, Ab.now, Ab.file]
theorem one_size (room : Nat) (name : ByteArray) (f : Nat) (now sure : List UInt8) (st : List (List (ByteArray × Nat))) (wr : List (Nat × Nat × List UInt8)) : (one room name f now sure st wr).size name = (now.length, 0) := by
  simp [one, Ab.size, Ab.look, Ab.lookIn, Ab.now, Ab.file]
theorem one_read (room : Nat) (name : ByteArray) (f : Nat) (now sure : List UInt8) (st : List (List (ByteArray × Nat))) (wr : List (Nat × Nat × List UInt8)) (at_ n : Nat) (h : at_ + n ≤ now.length) :
    (one room name f now sure st wr).read name at_ n = ((now.drop at_).take n, 0) := by
  have h1 : ¬ ((at_ : Int) < 0 ∨ (n : Int) < 0 ∨ (now.length : Int) < at_ ∨ (now.length : Int) - at_ < n) := by omega
  simp only [one, Ab.read, Ab.look, Ab.lookIn, Ab.now, Ab.file, List.find?_cons, decide_true, Option.map_some, Option.getD_some, Bool.false_eq_true, if_false, Int.toNat_natCast]
  rw [if_neg h1]
theorem wroteL_read (old : List UInt8) (at_ : Nat) (b : List UInt8) : ((wroteL old at_ b).drop at_).take b.length = b := by
  have hl : ((old ++ List.replicate (at_ + b.length - old.length) 0).take at_).length = at_ := by rw [List.length_take]; simp; omega
  unfold wroteL
  simp only
  rw [List.append_assoc, List.drop_append_of_le_length (by omega), List.drop_of_length_le (by omega), List.nil_append, List.take_append_of_le_length (Nat.le_refl _), List.take_length]

def nameA : ByteArray := ⟨#[97]⟩
theorem isName_A : isName nameA = true := by decide

theorem awake_any : Ctr Try.prog 10 [] [] (fun v H => v = .bool true ∧ H = []) := by
  refine Ctr.enter Try.func10 (by kernel_rfl) rfl Try.ntmps10 rfl rfl ?_
  intro G F R hE
  (refine go ?_)
  refine J_call [] rfl rfl rfl rfl (New_good 100 (by omega) (by omega)) rfl (fun _ _ _ _ _ => trivial) ?_
  rintro _ _ ⟨bd, D, hR, rfl, rfl⟩
  (refine go ?_)
  refine J_call [0] rfl rfl rfl rfl (Create_any bd D _ hR nameA (by simp [Ab.new])) rfl (fun _ _ _ _ _ => trivial) ?_
  rw [isName_A]
  rintro _ _ ⟨f, D1, hf, hR1, rfl, rfl⟩
  rw [new_create] at hR1 ⊢
  simp only at hR1
  (refine go ?_)
  refine J_buildSlice1 (U := tab) rfl rfl rfl rfl rfl rfl rfl rfl rfl (fun _ _ _ => trivial) ?_
  intro b0
  (refine go ?_)
  refine J_call [1, 0] rfl rfl rfl rfl (Write_any bd D1 _ hR1 nameA 2 (pts b0 (cl [.int .u8 7] 5)) _ [7] (Vw.pts rfl) (by simp [one]) (by simp) (by omega)) rfl (fun _ _ _ _ _ => trivial) ?_
  rw [show mayW nameA 2 [7] = true from by decide, show Int.toNat 2 = 2 from rfl, one_write _ _ _ _ _ _ _ _ _ (by simp), show wroteL [] 2 [7] = [0, 0, 7] from rfl]
  rintro _ _ ⟨D2, hR2, rfl, rfl⟩
  simp only at hR2
  (refine go ?_)
  refine J_call [0] rfl rfl rfl rfl (Read_any bd D2 _ hR2 nameA 0 3) rfl (fun _ _ _ _ _ => trivial) ?_
  rw [show (one 100 nameA f [0, 0, 7] [] [[], [(nameA, f)]] ([] ++ [(f, 2, [7])])).read nameA 0 3 = ([0, 0, 7], 0) from one_read _ _ _ _ _ _ _ 0 3 (by simp)]
  rintro _ _ ⟨r, rfl, rfl⟩
  refine J_slcAt 0 rfl (by simp) ?_
  rintro b o c rfl hv
  (refine go ?_)
  refine J_at1 (U := tab) 0 rfl rfl rfl rfl rfl rfl rfl rfl (by simp) ?_
  (refine go ?_)
  refine J_loadV (U := tab) 0 rfl rfl rfl (hv.cell (i := 0) (c := u8 0) (by simp [bV])) rfl rfl ?_
  (refine go ?_)
  refine J_at1 (U := tab) 2 rfl rfl rfl rfl rfl rfl rfl rfl (by simp) ?_
  (refine go ?_)
  refine J_loadV (U := tab) 0 rfl rfl rfl (hv.cell (i := 2) (c := u8 7) (by simp [bV])) rfl rfl ?_
  (refine go ?_)
  refine K_return hE Try.func10 rfl _ rfl ⟨by simp [oneOrTuple], rfl⟩ (Ent.fin [] 3 rfl rfl)
end Go.Proofs.Ytokknepnmfklnaa
