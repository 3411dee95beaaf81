/- files, part z: plain laws of a disk with one file, once more, without the walks beside them. -/
import Derived.Test.YtokknepnmfklnaaFh
set_option linter.unusedVariables false
set_option linter.unusedSimpArgs false
namespace Go.Proofs.Ytokknepnmfklnaa
open Go Go.SL
theorem wroteL_nil2 (a : List UInt8) : wroteL [] 0 a = a := by simp [wroteL]
theorem one_sync2 (room : Nat) (name : ByteArray) (f : Nat) (now sure : List UInt8) (st : List (List (ByteArray × Nat))) (wr : List (Nat × Nat × List UInt8)) :
    (one room name f now sure st wr).sync true name = (0, one room name f now now st (wr.filter fun x => !decide (x.1 = f))) := by
  have hf : (one room name f now sure st wr).find name true = (0, some f, one room name f now sure st wr) := by simp [Ab.find, Ab.meet, Ab.look, Ab.lookIn, one]
  simp only [Ab.sync, hf, if_true]
  simp [one, Ab.updS]
theorem one_syncNames2 (room : Nat) (name : ByteArray) (f : Nat) (now sure : List UInt8) (st : List (List (ByteArray × Nat))) (wr : List (Nat × Nat × List UInt8)) :
    (one room name f now sure st wr).syncNames = (0, one room name f now sure [[(name, f)]] wr) := by
  simp [Ab.syncNames, Ab.meet, one]
end Go.Proofs.Ytokknepnmfklnaa
