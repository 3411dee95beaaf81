/- Texts of one claim, joined: Da, EngJ, EngM, EngU, EngY, EngX, Fm, EngN, EngO, EngP, EngQ, EngR. -/
import Derived.Test.YtpecmnaikjbanaaGreatDoorQBH2
import Derived.Test.YtpecmnaikjbanaaGreatDoorQBH3
import Derived.Lib.MakeNoZero
import Derived.RangeFuncRecord
import Derived.RangeFuncIn
import GoSem.Extern.SlicesOverlaps
/- digest, part a: the plain model: words, rounds, the sum. -/
set_option linter.unusedVariables false
set_option linter.unusedSimpArgs false
namespace Go.SL
open Go
namespace Sha
/-- A word turned to the right. -/
def rot (x : W32) (n : Nat) : W32 := x <<< (32 - n) ||| x >>> n
theorem rot_xor (x : W32) (n : Nat) (h1 : 1 ≤ n) (h2 : n ≤ 31) : x >>> n ^^^ x <<< (32 - n) = rot x n := by
  apply BitVec.eq_of_getLsbD_eq
  intro i hi
  simp only [rot, BitVec.getLsbD_xor, BitVec.getLsbD_or, BitVec.getLsbD_ushiftRight, BitVec.getLsbD_shiftLeft]
  rcases Nat.lt_or_ge i (32 - n) with h | h
  · simp [h]
  · rw [BitVec.getLsbD_of_ge x (n + i) (by omega)]
    simp
def ks : List W32 := [
  0x428a2f98, 0x71374491, 0xb5c0fbcf, 0xe9b5dba5, 0x3956c25b, 0x59f111f1, 0x923f82a4, 0xab1c5ed5,
  0xd807aa98, 0x12835b01, 0x243185be, 0x550c7dc3, 0x72be5d74, 0x80deb1fe, 0x9bdc06a7, 0xc19bf174,
  0xe49b69c1, 0xefbe4786, 0x0fc19dc6, 0x240ca1cc, 0x2de92c6f, 0x4a7484aa, 0x5cb0a9dc, 0x76f988da,
  0x983e5152, 0xa831c66d, 0xb00327c8, 0xbf597fc7, 0xc6e00bf3, 0xd5a79147, 0x06ca6351, 0x14292967,
  0x27b70a85, 0x2e1b2138, 0x4d2c6dfc, 0x53380d13, 0x650a7354, 0x766a0abb, 0x81c2c92e, 0x92722c85,
  0xa2bfe8a1, 0xa81a664b, 0xc24b8b70, 0xc76c51a3, 0xd192e819, 0xd6990624, 0xf40e3585, 0x106aa070,
  0x19a4c116, 0x1e376c08, 0x2748774c, 0x34b0bcb5, 0x391c0cb3, 0x4ed8aa4a, 0x5b9cca4f, 0x682e6ff3,
  0x748f82ee, 0x78a5636f, 0x84c87814, 0x8cc70208, 0x90befffa, 0xa4506ceb, 0xbef9a3f7, 0xc67178f2]
def s0 (x : W32) : W32 := rot x 7 ^^^ rot x 18 ^^^ x >>> 3
def s1 (x : W32) : W32 := rot x 17 ^^^ rot x 19 ^^^ x >>> 10
def b0 (x : W32) : W32 := rot x 2 ^^^ rot x 13 ^^^ rot x 22
def b1 (x : W32) : W32 := rot x 6 ^^^ rot x 11 ^^^ rot x 25
def ch (e f g : W32) : W32 := g ^^^ e &&& (f ^^^ g)
def maj (a b c : W32) : W32 := a &&& b ||| c &&& (a ||| b)
theorem ch_ref (e f g : W32) : e &&& f ||| ~~~e &&& g = ch e f g := by
  apply BitVec.eq_of_getLsbD_eq
  intro i hi
  simp only [ch, BitVec.getLsbD_xor, BitVec.getLsbD_or, BitVec.getLsbD_and, BitVec.getLsbD_not, hi, decide_true, Bool.true_and]
  cases e.getLsbD i <;> cases f.getLsbD i <;> cases g.getLsbD i <;> rfl
theorem maj_ref (a b c : W32) : a &&& b ||| a &&& c ||| b &&& c = maj a b c := by
  apply BitVec.eq_of_getLsbD_eq
  intro i hi
  simp only [maj, BitVec.getLsbD_or, BitVec.getLsbD_and]
  cases a.getLsbD i <;> cases b.getLsbD i <;> cases c.getLsbD i <;> rfl
/-- The word of four bytes. -/
def word (b : List UInt8) (t : Nat) : W32 := wB (b.getD (4 * t) 0) <<< 24 ||| wB (b.getD (4 * t + 1) 0) <<< 16 ||| wB (b.getD (4 * t + 2) 0) <<< 8 ||| wB (b.getD (4 * t + 3) 0)
/-- The words of a chunk, the first of them. -/
def sched (b : List UInt8) : Nat → List W32
  | 0 => []
  | t + 1 =>
    let w := sched b t
    if t < 16 then w ++ [word b t] else w ++ [w.getD (t - 16) 0 + w.getD (t - 7) 0 + s1 (w.getD (t - 2) 0) + s0 (w.getD (t - 15) 0)]
theorem sched_len (b : List UInt8) (t : Nat) : (sched b t).length = t := by
  induction t with
  | zero => rfl
  | succ t ih => simp only [sched]; split <;> simp [ih]
theorem sched_get (b : List UInt8) {t u : Nat} (h : t ≤ u) (i : Nat) (hi : i < t) : (sched b u)[i]? = (sched b t)[i]? := by
  induction u with
  | zero => omega
  | succ u ih =>
    rcases Nat.lt_or_ge u t with h2 | h2
    · have : t = u + 1 := by omega
      rw [this]
    · rw [← ih h2]
      simp only [sched]
      split <;> rw [List.getElem?_append_left (by rw [sched_len]; omega)]
/-- The eight words. -/
structure St where
  a : W32
  b : W32
  c : W32
  d : W32
  e : W32
  f : W32
  g : W32
  h : W32
def round (s : St) (k w : W32) : St :=
  let x := s.h + b1 s.e + ch s.e s.f s.g + k + w
  let y := b0 s.a + maj s.a s.b s.c
  ⟨x + y, s.a, s.b, s.c, s.d + x, s.e, s.f, s.g⟩
def rounds (s : St) (w : List W32) : Nat → St
  | 0 => s
  | t + 1 => round (rounds s w t) (ks.getD t 0) (w.getD t 0)
def plus (s t : St) : St := ⟨s.a + t.a, s.b + t.b, s.c + t.c, s.d + t.d, s.e + t.e, s.f + t.f, s.g + t.g, s.h + t.h⟩
/-- The state behind a chunk (the first 64 bytes). -/
def chunk (s : St) (b : List UInt8) : St := plus s (rounds s (sched b 64) 64)
def start : St := ⟨0x6a09e667, 0xbb67ae85, 0x3c6ef372, 0xa54ff53a, 0x510e527f, 0x9b05688c, 0x1f83d9ab, 0x5be0cd19⟩
/-- The state behind so many chunks. -/
def chunks (s : St) (b : List UInt8) : Nat → St
  | 0 => s
  | n + 1 => chunk (chunks s b n) (b.drop (64 * n))
def St.l (s : St) : List W32 := [s.a, s.b, s.c, s.d, s.e, s.f, s.g, s.h]
/-- The number of bits, in eight bytes. -/
def be8 (n : Nat) : List UInt8 := (List.range 8).map fun i => UInt8.ofNat (n / 2 ^ (56 - 8 * i))
/-- What comes behind so many bytes. -/
def pad (n : Nat) : List UInt8 := 128 :: List.replicate ((119 - n % 64) % 64) 0 ++ be8 (8 * n)
theorem pad_len (n : Nat) : (n + (pad n).length) % 64 = 0 := by
  simp only [pad, be8, List.length_append, List.length_cons, List.length_replicate, List.length_map, List.length_range]
  omega
def out (s : St) : List UInt8 := (List.range 32).map fun i => UInt8.ofNat ((s.l.getD (i / 4) 0) >>> (24 - 8 * (i % 4))).toNat
theorem out_len (s : St) : (out s).length = 32 := by simp [out]
def msg (b : List UInt8) : List UInt8 := b ++ pad b.length
end Sha
/-- The hash of bytes. -/
def sumL (b : List UInt8) : Dg := ⟨Sha.out (Sha.chunks Sha.start (Sha.msg b) ((Sha.msg b).length / 64)), Sha.out_len _⟩
def le8 (n : Nat) : List UInt8 := (List.range 8).map fun i => UInt8.ofNat (n / 2 ^ (8 * i))
/-- The bytes of which a hash of parts is one. -/
def partsL (tag : UInt8) (ps : List (List UInt8)) : List UInt8 := tag :: ps.flatMap fun p => le8 p.length ++ p
def taggedL (tag : UInt8) (ps : List (List UInt8)) : Dg := sumL (partsL tag ps)
end Go.SL
namespace Go.SL
open Go
namespace Sha
/-- A word of which so many bytes are there. -/
def part (b : List UInt8) (t : Nat) : Nat → W32
  | 0 => 0
  | j + 1 => part b t j ||| wB (b.getD (4 * t + j) 0) <<< (24 - 8 * j)
theorem part4 (b : List UInt8) (t : Nat) : part b t 4 = word b t := by
  simp [part, word]
def fillW (b : List UInt8) (i : Nat) : List W32 := (List.range 64).map fun t => part b t (min 4 (i - 4 * t))
theorem fillW_len (b : List UInt8) (i : Nat) : (fillW b i).length = 64 := by simp [fillW]
theorem fillW_get (b : List UInt8) (i t : Nat) (ht : t < 64) : (fillW b i)[t]? = some (part b t (min 4 (i - 4 * t))) := by
  simp [fillW, ht]
theorem fillW_zero (b : List UInt8) : fillW b 0 = List.replicate 64 0 := by
  apply List.ext_getElem?
  intro t
  rcases Nat.lt_or_ge t 64 with h | h
  · rw [fillW_get b 0 t h, List.getElem?_replicate, if_pos h]; simp [part]
  · rw [List.getElem?_eq_none (by rw [fillW_len]; exact h), List.getElem?_eq_none (by simpa using h)]
theorem fillW_step (b : List UInt8) (i : Nat) (hi : i < 64) : (fillW b i).set (i / 4) (part b (i / 4) (i % 4) ||| wB (b.getD i 0) <<< (24 - 8 * (i % 4))) = fillW b (i + 1) := by
  apply List.ext_getElem?
  intro t
  rw [List.getElem?_set, fillW_len]
  rcases Nat.lt_or_ge t 64 with h | h
  · rw [fillW_get b i t h, fillW_get b (i + 1) t h]
    by_cases ht : i / 4 = t
    · subst ht
      rw [if_pos rfl, if_pos h]
      have e1 : min 4 (i + 1 - 4 * (i / 4)) = i % 4 + 1 := by omega
      have e2 : 4 * (i / 4) + i % 4 = i := by omega
      rw [e1, part, e2]
    · rw [if_neg ht]
      have : min 4 (i - 4 * t) = min 4 (i + 1 - 4 * t) := by omega
      rw [this]
  · rw [List.getElem?_eq_none (by rw [fillW_len]; exact h), List.getElem?_eq_none (l := fillW b (i + 1)) (by rw [fillW_len]; exact h)]
    split
    · omega
    · rfl
theorem sched_word (b : List UInt8) (t u : Nat) (h : t < u) (hu : t < 16) : (sched b u)[t]? = some (word b t) := by
  rw [sched_get b (t := t + 1) (by omega) t (by omega)]
  simp only [sched, if_pos hu]
  rw [List.getElem?_append_right (by rw [sched_len]; exact Nat.le_refl _), sched_len, Nat.sub_self]
  rfl
theorem fillW_end (b : List UInt8) : fillW b 64 = sched b 16 ++ List.replicate 48 0 := by
  apply List.ext_getElem?
  intro t
  rcases Nat.lt_or_ge t 16 with h | h
  · rw [fillW_get b 64 t (by omega), List.getElem?_append_left (by rw [sched_len]; exact h), sched_word b t 16 h h, show min 4 (64 - 4 * t) = 4 from by omega, part4]
  · rw [List.getElem?_append_right (by rw [sched_len]; exact h), sched_len]
    rcases Nat.lt_or_ge t 64 with h2 | h2
    · rw [fillW_get b 64 t h2, List.getElem?_replicate, if_pos (by omega), show min 4 (64 - 4 * t) = 0 from by omega]; rfl
    · rw [List.getElem?_eq_none (by rw [fillW_len]; exact h2), List.getElem?_eq_none (by simp; omega)]
def schedW (b : List UInt8) (t : Nat) : List W32 := sched b t ++ List.replicate (64 - t) 0
theorem schedW_len (b : List UInt8) (t : Nat) (h : t ≤ 64) : (schedW b t).length = 64 := by simp [schedW, sched_len]; omega
theorem schedW_get (b : List UInt8) (t i : Nat) (h : i < t) : (schedW b t)[i]? = some ((sched b t).getD i 0) := by
  unfold schedW
  rw [List.getElem?_append_left (by rw [sched_len]; exact h), List.getD_eq_getElem?_getD, List.getElem?_eq_getElem (by rw [sched_len]; exact h)]; rfl
theorem schedW_step (b : List UInt8) (t : Nat) (h1 : 16 ≤ t) (h2 : t < 64) : (schedW b t).set t ((sched b t).getD (t - 16) 0 + (sched b t).getD (t - 7) 0 + s1 ((sched b t).getD (t - 2) 0) + s0 ((sched b t).getD (t - 15) 0)) = schedW b (t + 1) := by
  unfold schedW
  rw [List.set_append_right _ _ (by rw [sched_len]; exact Nat.le_refl _), sched_len, Nat.sub_self, show 64 - t = (64 - (t + 1)) + 1 from by omega, List.replicate_succ, List.set_cons_zero]
  conv => rhs; unfold sched
  rw [if_neg (by omega)]
  simp
theorem schedW_end (b : List UInt8) : schedW b 64 = sched b 64 := by simp [schedW]
end Sha
end Go.SL
namespace Go.SL
open Go
namespace Sha
theorem sched_congr {b b' : List UInt8} (h : ∀ i, i < 64 → b.getD i 0 = b'.getD i 0) (t : Nat) : sched b t = sched b' t := by
  induction t with
  | zero => rfl
  | succ t ih =>
    simp only [sched, ih]
    split
    · rename_i ht
      simp only [word, h (4 * t) (by omega), h (4 * t + 1) (by omega), h (4 * t + 2) (by omega), h (4 * t + 3) (by omega)]
    · rfl
theorem chunk_app (s : St) (b r : List UInt8) (h : 64 ≤ b.length) : chunk s (b ++ r) = chunk s b := by
  unfold chunk
  rw [sched_congr (b := b ++ r) (b' := b) fun i hi => by
    simp only [List.getD_eq_getElem?_getD]
    rw [List.getElem?_append_left (by omega)]]
theorem chunks_app (s : St) (b r : List UInt8) : ∀ q, 64 * q ≤ b.length → chunks s (b ++ r) q = chunks s b q
  | 0, _ => rfl
  | q + 1, h => by
    simp only [chunks]
    rw [chunks_app s b r q (by omega), List.drop_append_of_le_length (by omega), chunk_app _ _ _ (by rw [List.length_drop]; omega)]
theorem chunks_add (s : St) (b : List UInt8) (p : Nat) : ∀ q, chunks s b (p + q) = chunks (chunks s b p) (b.drop (64 * p)) q
  | 0 => rfl
  | q + 1 => by
    rw [← Nat.add_assoc]
    simp only [chunks]
    rw [chunks_add s b p q, List.drop_drop, show 64 * p + 64 * q = 64 * (p + q) from by omega]
theorem sum_split (b : List UInt8) : chunks start (msg b) ((msg b).length / 64) = chunks (chunks start b (b.length / 64)) (b.drop (64 * (b.length / 64)) ++ pad b.length) ((b.drop (64 * (b.length / 64)) ++ pad b.length).length / 64) := by
  have h1 : 64 * (b.length / 64) ≤ b.length := by omega
  have hl : (msg b).length / 64 = b.length / 64 + (b.drop (64 * (b.length / 64)) ++ pad b.length).length / 64 := by
    simp only [msg, List.length_append, List.length_drop]
    omega
  rw [hl, chunks_add]
  unfold msg
  rw [chunks_app _ _ _ _ h1, List.drop_append_of_le_length h1]
end Sha
end Go.SL
namespace Go.SL
theorem sumL_bs (b : List UInt8) : (sumL b).bs = Sha.out (Sha.chunks Sha.start (Sha.msg b) ((Sha.msg b).length / 64)) := rfl
end Go.SL
namespace Go.SL
theorem put_byte {l : List UInt8} {i n : Nat} {x : UInt8} (hl : l.length = n) (h : l[i]? = some x) : (bV (l.take i ++ List.replicate (n - i) (0 : UInt8))).set i (u8 x) = bV (l.take (i + 1) ++ List.replicate (n - (i + 1)) (0 : UInt8)) := by
  have hi : i < n := by
    rcases Nat.lt_or_ge i l.length with h2 | h2
    · omega
    · rw [List.getElem?_eq_none h2] at h; cases h
  have e1 : (l.take i).length = i := by rw [List.length_take]; omega
  show ((l.take i ++ List.replicate (n - i) (0 : UInt8)).map u8).set i (u8 x) = _
  rw [← List.map_set, List.set_append_right _ _ (by omega), e1, Nat.sub_self, show n - i = (n - (i + 1)) + 1 from by omega, List.replicate_succ, List.set_cons_zero, List.take_add_one, h]
  simp [bV]
theorem allOne_bV (l : List UInt8) : allOne (bV l) = true := by
  induction l with
  | nil => rfl
  | cons x l ih =>
    show (Value.oneCell' (u8 x) && allOne (bV l)) = true
    rw [ih]; rfl
end Go.SL

/- Engine, part J: bits of a signed number under small masks. Nothing here names a program. -/
set_option linter.unusedVariables false
set_option linter.unusedSimpArgs false
namespace Go.SL
theorem ofInt64 (x : Int) : (BitVec.ofInt IntKind.i64.bits x).toNat = (x % 18446744073709551616).toNat := by
  rw [BitVec.toNat_ofInt]; rfl
theorem and1_i64 (x : Int) : IntKind.i64.wrap ((BitVec.ofInt IntKind.i64.bits x &&& BitVec.ofInt IntKind.i64.bits 1).toNat : Int) = x % 2 := by
  have e2 : (BitVec.ofInt IntKind.i64.bits (1 : Int)).toNat = 2 ^ 1 - 1 := by decide
  rw [BitVec.toNat_and, ofInt64, e2, Nat.and_two_pow_sub_one_eq_mod, wrap_in (by simp only [inK]; omega)]
  omega
theorem and3_i64 (x : Int) : IntKind.i64.wrap ((BitVec.ofInt IntKind.i64.bits x &&& BitVec.ofInt IntKind.i64.bits 3).toNat : Int) = x % 4 := by
  have e2 : (BitVec.ofInt IntKind.i64.bits (3 : Int)).toNat = 2 ^ 2 - 1 := by decide
  rw [BitVec.toNat_and, ofInt64, e2, Nat.and_two_pow_sub_one_eq_mod, wrap_in (by simp only [inK]; omega)]
  omega
theorem and2_i64 (x : Int) : IntKind.i64.wrap ((BitVec.ofInt IntKind.i64.bits x &&& BitVec.ofInt IntKind.i64.bits 2).toNat : Int) = x % 4 - x % 2 := by
  have e2 : (BitVec.ofInt IntKind.i64.bits (2 : Int)).toNat = (2 ^ 2 - 1) &&& 2 := by decide
  have h : ∀ y, y < 4 → y &&& 2 = y - y % 2 := by decide
  rw [BitVec.toNat_and, ofInt64, e2, ← Nat.and_assoc, Nat.and_two_pow_sub_one_eq_mod, h _ (by omega), wrap_in (by simp only [inK]; omega)]
  omega
end Go.SL

/- Engine, part M: bytes of numbers, numbers of bytes; bits that do not meet. Nothing here names a program. -/
set_option linter.unusedVariables false
set_option linter.unusedSimpArgs false
namespace Go.SL
/-- So many that hold in whatever order, from the i-th on. -/
def sts : Nat → Nat → Pt → Pt
  | _, 0, p => p
  | i, n + 1, p => .st i (sts (i + 1) n p)
theorem conv_u8 (n : Nat) : Value.int .u8 (IntKind.u8.wrap (n : Int)) = u8 (UInt8.ofNat n) := by
  have h : IntKind.u8.wrap (n : Int) = (n : Int) % 256 := by simp [IntKind.wrap, IntKind.bits, IntKind.signed]
  rw [h]
  simp only [u8, UInt8.toNat_ofNat']
  congr 1
theorem or_disj {a c k : Nat} (ha : a < 2 ^ k) : a ||| c * 2 ^ k = a + c * 2 ^ k := by
  have := Nat.shiftLeft_add_eq_or_of_lt ha c
  rw [Nat.shiftLeft_eq] at this
  rw [Nat.or_comm, ← this, Nat.add_comm]
theorem ofNat64 {a : Nat} (h : a < 18446744073709551616) : (BitVec.ofInt IntKind.i64.bits (a : Int)).toNat = a := by
  rw [ofInt64]; omega
theorem ofNatU64 {a : Nat} (h : a < 18446744073709551616) : (BitVec.ofInt IntKind.u64.bits (a : Int)).toNat = a := by
  rw [BitVec.toNat_ofInt]
  show ((a : Int) % 18446744073709551616).toNat = a
  omega
theorem ofNatU8 {a : Nat} (h : a < 256) : (BitVec.ofInt IntKind.u8.bits (a : Int)).toNat = a := by
  rw [BitVec.toNat_ofInt]
  show ((a : Int) % 256).toNat = a
  omega
theorem or_i64 {a c k : Nat} (ha : a < 2 ^ k) (h : a + c * 2 ^ k < 9223372036854775808) :
    IntKind.i64.wrap ((BitVec.ofInt IntKind.i64.bits (a : Int) ||| BitVec.ofInt IntKind.i64.bits ((c * 2 ^ k : Nat) : Int)).toNat : Int) = ((a + c * 2 ^ k : Nat) : Int) := by
  rw [BitVec.toNat_or, ofNat64 (by omega), ofNat64 (by omega), or_disj ha]
  exact wrap_in (by simp only [inK]; omega)
theorem or_u64 {a c k : Nat} (ha : a < 2 ^ k) (h : a + c * 2 ^ k < 18446744073709551616) :
    IntKind.u64.wrap ((BitVec.ofInt IntKind.u64.bits (a : Int) ||| BitVec.ofInt IntKind.u64.bits ((c * 2 ^ k : Nat) : Int)).toNat : Int) = ((a + c * 2 ^ k : Nat) : Int) := by
  rw [BitVec.toNat_or, ofNatU64 (by omega), ofNatU64 (by omega), or_disj ha]
  exact wrap_in (by simp only [inK]; omega)
set_option maxRecDepth 10000 in
theorem or128_u8 (x : Nat) (hx : x < 256) : IntKind.u8.wrap ((BitVec.ofInt IntKind.u8.bits (x : Int) ||| BitVec.ofInt IntKind.u8.bits 128).toNat : Int) = ((x % 128 + 128 : Nat) : Int) := by
  have e2 : (BitVec.ofInt IntKind.u8.bits (128 : Int)).toNat = 128 := by decide
  have h : ∀ y, y < 256 → y ||| 128 = y % 128 + 128 := by decide
  rw [BitVec.toNat_or, ofNatU8 hx, e2, h x hx]
  exact wrap_in (by simp only [inK]; omega)
theorem andNot128_u8 (x : Nat) (hx : x < 256) : IntKind.u8.wrap ((BitVec.ofInt IntKind.u8.bits (x : Int) &&& ~~~ BitVec.ofInt IntKind.u8.bits 128).toNat : Int) = ((x % 128 : Nat) : Int) := by
  have e2 : (~~~ BitVec.ofInt IntKind.u8.bits (128 : Int)).toNat = 2 ^ 7 - 1 := by decide
  rw [BitVec.toNat_and, ofNatU8 hx, e2, Nat.and_two_pow_sub_one_eq_mod]
  exact wrap_in (by simp only [inK]; omega)
theorem and_mask_u64 (x n : Nat) (hx : x < 18446744073709551616) (hn : n < 64) : IntKind.u64.wrap ((BitVec.ofInt IntKind.u64.bits (x : Int) &&& BitVec.ofInt IntKind.u64.bits ((2 ^ n - 1 : Nat) : Int)).toNat : Int) = ((x % 2 ^ n : Nat) : Int) := by
  have hp : 2 ^ n < 2 ^ 64 := Nat.pow_lt_pow_right (by omega) hn
  have hpos : 0 < 2 ^ n := Nat.pow_pos (by omega)
  rw [BitVec.toNat_and, ofNatU64 hx, ofNatU64 (by omega), Nat.and_two_pow_sub_one_eq_mod]
  have hlt : x % 2 ^ n < 18446744073709551616 := Nat.lt_of_le_of_lt (Nat.mod_le _ _) hx
  exact wrap_in (by simp only [inK]; omega)
/-- Four bytes of a number, the number of four. -/
def le4 (n : Nat) : List UInt8 := [UInt8.ofNat n, UInt8.ofNat (n / 256), UInt8.ofNat (n / 65536), UInt8.ofNat (n / 16777216)]
def leN (b : List UInt8) : Nat := (b.getD 0 0).toNat + (b.getD 1 0).toNat * 256 + (b.getD 2 0).toNat * 65536 + (b.getD 3 0).toNat * 16777216
theorem le4_len (n : Nat) : (le4 n).length = 4 := rfl
theorem leN_le4 (n : Nat) (h : n < 4294967296) (rest : List UInt8) : leN (le4 n ++ rest) = n := by
  simp only [leN, le4, List.cons_append, List.getD_cons_zero, List.getD_cons_succ, UInt8.toNat_ofNat']
  omega
theorem leN_lt (b : List UInt8) : leN b < 4294967296 := by
  unfold leN
  have h : ∀ x : UInt8, x.toNat < 256 := fun x => x.toNat_lt
  have h0 := h (b.getD 0 0); have h1 := h (b.getD 1 0); have h2 := h (b.getD 2 0); have h3 := h (b.getD 3 0)
  omega
theorem le4_leN (b : List UInt8) (h : b.length = 4) : le4 (leN b) = b := by
  match b, h with
  | [a, b, c, d], _ =>
    have h : ∀ x : UInt8, x.toNat < 256 := fun x => x.toNat_lt
    have h0 := h a; have h1 := h b; have h2 := h c; have h3 := h d
    simp only [leN, le4, List.getD_cons_zero, List.getD_cons_succ, List.cons.injEq, and_true]
    refine ⟨?_, ?_, ?_, ?_⟩ <;> apply UInt8.toNat_inj.1 <;> simp only [UInt8.toNat_ofNat'] <;> omega
end Go.SL

/- Engine, part U: assertions sought out by themselves; calls and ends by them. Nothing here names a program. -/
set_option linter.unusedVariables false
set_option linter.unusedSimpArgs false
namespace Go.SL
open Go
theorem Ent.take1 {H H' rest : List HP} {A : HP} (i : Nat) (h : nthP i H [] = .mk A rest) (hr : Ent rest H') : Ent H (A :: H') :=
  (Ent.perm (by simpa using nthP_perm i H [] A rest h)).trans (Ent.cons A hr)
theorem Ent.toNil (H : List HP) : Ent H [] := fun h hs => ⟨fun _ => none, ⟨fun b o e => (by cases e), fun _ => rfl⟩⟩
/-- Found out by itself. -/
theorem entA {H H' : List HP} (h : Ent H H' := by (repeat' (first | exact Ent.refl _ | exact Ent.toNil _ | refine Ent.take1 0 rfl ?_ | refine Ent.take1 1 rfl ?_ | refine Ent.take1 2 rfl ?_ | refine Ent.take1 3 rfl ?_ | refine Ent.take1 4 rfl ?_ | refine Ent.take1 5 rfl ?_ | refine Ent.take1 6 rfl ?_ | refine Ent.take1 7 rfl ?_ | refine Ent.take1 8 rfl ?_ | refine Ent.take1 9 rfl ?_ | refine Ent.take1 10 rfl ?_ | refine Ent.take1 11 rfl ?_ | refine Ent.take1 12 rfl ?_ | refine Ent.take1 13 rfl ?_ | refine Ent.take1 14 rfl ?_ | refine (Ent.drop _ _).trans ?_))) : Ent H H' := h
section
variable {P : Program} {f : FuncId} {n : Nat} {R : Ending → World → Prop} {G : Glob} {k : List Item} {L : Lst} {H : List HP} {S : World → Prop} {all : Array Oper} {rest : Pl} {d : Tmp} {ty : TypeId} {pos : String} {af : Array Edge} {gd : Option (Nat × Bool)}
theorem J_callE {fo : Operand} {args : Array Operand} {tys : Array TypeId} {g : FuncId} {cap : Array Value} {vs : List Value} {Pre Fr : List HP} {Post : Value → List HP → Prop} (hd : Nat.blt d n = true)
    (hf : ev L fo = some (.func (.func g) #[] cap)) (hargs : evs L args.toList [] = .mk vs) {avs : List Value} (has : avs = vs ++ cap.toList) (c : Ctr P g avs Pre Post) (he : Ent H (Pre ++ Fr))
    (h : ∀ v H', Post v H' → J P f n R G S all rest k ((d, v) :: L) (H' ++ Fr))
    (hS : ∀ v H' w, Post v H' → Sat G w (H' ++ Fr) → Sx rest S w) :
    J P f n R G S all (.cons false true ⟨some d, .call { callee := .value fo, args := args, argTypes := tys }, ty, pos, af, gd⟩ rest) k L H := by
  intro a w ha hw _
  refine .inl ⟨.inl rfl, .inr ⟨rfl, ?_⟩⟩
  have hr : (execOp a.eval ⟨some d, .call { callee := .value fo, args := args, argTypes := tys }, ty, pos, af, gd⟩).run P w = .ok (.enter g avs.toArray) w := by
    simp only [execOp, resolve, Sem.run_bind, ha.ev hf, Deferred.ofValue, Sem.run_pure, Result.andThen_ok, invoke]
    rw [run_callFunc c.1, evs_arr ha.1 _ _ hargs, has]
    congr 2
    simp
  refine wpIn_call (fun c hc => by cases hc) hr (Calls.mono (c.2 G w Fr (hw.ent he)) ?_)
  rintro e w' ⟨v, H', rfl, hpost, hw'⟩
  exact ⟨v, rfl, hS v H' w' hpost hw', h v H' hpost _ w' (ha.put hd v) hw' (hS v H' w' hpost hw')⟩
theorem J_call0E {fo : Operand} {args : Array Operand} {tys : Array TypeId} {g : FuncId} {cap : Array Value} {vs : List Value} {Pre Fr : List HP} {Post : Value → List HP → Prop}
    (hf : ev L fo = some (.func (.func g) #[] cap)) (hargs : evs L args.toList [] = .mk vs) {avs : List Value} (has : avs = vs ++ cap.toList) (c : Ctr P g avs Pre Post) (he : Ent H (Pre ++ Fr))
    (h : ∀ v H', Post v H' → J P f n R G S all rest k L (H' ++ Fr))
    (hS : ∀ v H' w, Post v H' → Sat G w (H' ++ Fr) → Sx rest S w) :
    J P f n R G S all (.cons false true ⟨none, .call { callee := .value fo, args := args, argTypes := tys }, ty, pos, af, gd⟩ rest) k L H := by
  intro a w ha hw _
  refine .inl ⟨.inl rfl, .inr ⟨rfl, ?_⟩⟩
  have hr : (execOp a.eval ⟨none, .call { callee := .value fo, args := args, argTypes := tys }, ty, pos, af, gd⟩).run P w = .ok (.enter g avs.toArray) w := by
    simp only [execOp, resolve, Sem.run_bind, ha.ev hf, Deferred.ofValue, Sem.run_pure, Result.andThen_ok, invoke]
    rw [run_callFunc c.1, evs_arr ha.1 _ _ hargs, has]
    congr 2
    simp
  refine wpIn_call (fun c hc => by cases hc) hr (Calls.mono (c.2 G w Fr (hw.ent he)) ?_)
  rintro e w' ⟨v, H', rfl, hpost, hw'⟩
  exact ⟨v, rfl, hS v H' w' hpost hw', h v H' hpost _ w' ha hw' (hS v H' w' hpost hw')⟩
/-- Roads that come together: what is left behind them, once. m: how many items of what is left lie ahead of it. -/
theorem K_mid {k0 k' : List Item} {α : Type} (m : Nat) (I : α → Prop) (Lf : α → Lst) (Hf : α → List HP) (hk : advK 1000 (k0.drop m) = .mk k') (tail : ∀ y, I y → K P f n R G k' (Lf y) (Hf y))
    (h : (∀ y, I y → K P f n R G k' (Lf y) (Hf y)) → K P f n R G k0 L H) : K P f n R G k0 L H := h tail
theorem K_to {k0 k' : List Item} {α : Type} {I : α → Prop} {Lf : α → Lst} {Hf : α → List HP} (ih : ∀ y, I y → K P f n R G k' (Lf y) (Hf y)) (y : α) (hk : advK 1000 k0 = .mk k') (hI : I y)
    (hL : ∀ t v, fget (Lf y) t = some v → fget L t = some v) (hH : Ent H (Hf y)) : K P f n R G k0 L H := K_advK 1000 hk (K_sub hL (K_ent hH (ih y hI)))
/-- Cases at code, the roads to it ahead. -/
theorem K_adv1 {k0 k' : List Item} (hk : advK 1000 k0 = .mk k') (h : K P f n R G k' L H) : K P f n R G k0 L H := K_advK 1000 hk h
end
end Go.SL

/- Engine, part Y: functions with first arguments bound; sums of strings; a row without noughts. Nothing here names a program. -/
set_option linter.unusedVariables false
set_option linter.unusedSimpArgs false
namespace Go.SL
open Go
section
variable {P : Program} {U : Tr} [hU : TabOk P U] {f : FuncId} {n : Nat} {R : Ending → World → Prop} {G : Glob} {k : List Item} {L : Lst} {H : List HP} {S : World → Prop} {all : Array Oper} {rest : Pl} {d : Tmp} {ty : TypeId} {pos : String} {af : Array Edge} {gd : Option (Nat × Bool)} {m : Bool}
/-- A call of a function value with its first arguments bound. -/
theorem J_callF {fo : Operand} {args : Array Operand} {tys : Array TypeId} {g : FuncId} {fi cap : Array Value} {vs : List Value} {Pre Fr : List HP} {Post : Value → List HP → Prop} (hd : Nat.blt d n = true)
    (hf : ev L fo = some (.func (.func g) fi cap)) (hargs : evs L args.toList [] = .mk vs) {avs : List Value} (has : avs = fi.toList ++ vs ++ cap.toList) (c : Ctr P g avs Pre Post) (he : Ent H (Pre ++ Fr))
    (h : ∀ v H', Post v H' → J P f n R G S all rest k ((d, v) :: L) (H' ++ Fr))
    (hS : ∀ v H' w, Post v H' → Sat G w (H' ++ Fr) → Sx rest S w) :
    J P f n R G S all (.cons false true ⟨some d, .call { callee := .value fo, args := args, argTypes := tys }, ty, pos, af, gd⟩ rest) k L H := by
  intro a w ha hw _
  refine .inl ⟨.inl rfl, .inr ⟨rfl, ?_⟩⟩
  have hr : (execOp a.eval ⟨some d, .call { callee := .value fo, args := args, argTypes := tys }, ty, pos, af, gd⟩).run P w = .ok (.enter g avs.toArray) w := by
    simp only [execOp, resolve, Sem.run_bind, ha.ev hf, Deferred.ofValue, Sem.run_pure, Result.andThen_ok, invoke]
    rw [run_callFunc c.1, evs_arr ha.1 _ _ hargs, has]
    congr 2
    apply Array.ext'
    simp
  refine wpIn_call (fun c hc => by cases hc) hr (Calls.mono (c.2 G w Fr (hw.ent he)) ?_)
  rintro e w' ⟨v, H', rfl, hpost, hw'⟩
  exact ⟨v, rfl, hS v H' w' hpost hw', h v H' hpost _ w' (ha.put hd v) hw' (hS v H' w' hpost hw')⟩
theorem J_strAdd {t yt : TypeId} {x y : Operand} {p q : ByteArray} (hd : Nat.blt d n = true) (hx : ev L x = some (.string p)) (hy : ev L y = some (.string q)) (hr : p.size + q.size ≤ 9223372036854775807)
    (h : J P f n R G S all rest k ((d, .string (p ++ q)) :: L) H) : J P f n R G S all (.cons m true ⟨some d, .binOp .add t x y yt, ty, pos, af, gd⟩ rest) k L H :=
  J_pure hd (fun a ha w => by
    have h0 : ¬ (((p.size + q.size : Nat) : Int) > IntKind.i64.max) := by have : IntKind.i64.max = 9223372036854775807 := by decide
                                                                          omega
    simp only [execOp, ha.ev hx, ha.ev hy, eqGuard, Sem.run_bind, Sem.run_pure, Result.andThen_ok, binOp_string_add, Op.stringOp]
    rw [if_neg h0]
    rfl) h
/-- bytealg.MakeNoZero: a row of whatever cells. -/
theorem J_makeNoZero {g : FuncId} {fn : Func} {args : Array Operand} {tys : Array TypeId} {t elem : TypeId} {ty' : Ty} {q : Nat} (hd : Nat.blt d n = true)
    (hf : P.funcs[g]? = some fn) (hb : fn.body = none) (hn : (fn.name == "runtime.NumGoroutine") = false) (hnx : (Extern.findNext fn).isNone = true) (he : Extern.find fn = some (Extern.BytealgMakeNoZero.makeNoZero fn.params #[t]))
    (ht : U.get t = some ty') (hu : ty'.und = .slice elem)
    (hargs : evs L args.toList [] = .mk [.int .i64 (q : Int)]) (hq : q ≤ 281474976710656)
    (hS : ∀ b l w, Sat G w (pts b (cl l elem) :: H) → Sx rest S w)
    (h : ∀ b c l, q ≤ c → List.length l = c → J P f n R G S all rest k ((d, .slice (some ⟨b, 0, none⟩) q c) :: L) (pts b (cl l elem) :: H)) :
    J P f n R G S all (.cons false true ⟨some d, .call { callee := .value (.func g), args := args, argTypes := tys }, ty, pos, af, gd⟩ rest) k L H := by
  refine J_act hd (fun u H1 => ∃ b c l, (q ≤ c ∧ List.length l = c) ∧ u = .slice (some ⟨b, 0, none⟩) q c ∧ H1 = pts b (cl l elem) :: H) (fun a w ha hw => ?_) ?_ ?_
  · have hav := evs_arr ha _ _ hargs
    obtain ⟨cs, hr, h1, _⟩ := Lib.run_makeNoZero (P := P) w fn.params t elem (by rw [← hu]; exact und_of ht) q hq
    have hw2 : Sat G w.drew.drew H := (hw.draw _).draw _
    refine ⟨_, w.drew.drew.alloc (.cells cs elem), _, ?_, ⟨w.heap.size, cs.size, cs.toList, ⟨h1, by simp⟩, rfl, rfl⟩, ?_⟩
    · simp only [execOp, resolve, Sem.run_bind, Act.eval, Deferred.ofValue, Sem.run_pure, Result.andThen_ok, invoke]
      rw [show Array.map (fun x => a.eval x) args = #[.int .i64 (q : Int)] from hav]
      simp only [Array.empty_append, Array.append_empty]
      rw [run_extern hf hb hn hnx he, hr]
      rfl
    · have := hw2.alloc (cl cs.toList elem)
      have e : cl cs.toList elem = .cells cs elem := by simp [cl]
      rw [e] at this ⊢
      exact this
  · rintro u H1 w ⟨b, c, l, _, rfl, rfl⟩ hw; exact hS b l w hw
  · rintro u H1 ⟨b, c, l, ⟨h1, h2⟩, rfl, rfl⟩; exact h b c l h1 h2
/-- 's[:q:r]'. -/
theorem J_slice3n {t elem : TypeId} {ty' te : Ty} {x hi mx : Operand} {a0 : Option Addr} {len cap : Nat} {q r : Int} {j2 j3 : IntKind} (hd : Nat.blt d n = true)
    (ht : U.get t = some ty') (hu : ty'.und = .slice elem) (he : U.get elem = some te) (hx : ev L x = some (.slice a0 len cap)) (hhi : ev L hi = some (.int j2 q)) (hmx : ev L mx = some (.int j3 r)) (h0 : 0 ≤ q) (hqr : q ≤ r) (hrc : r ≤ (cap : Int))
    (h : J P f n R G S all rest k ((d, .slice (sliceAt a0 r.toNat 0 te.info.size) q.toNat r.toNat) :: L) H) :
    J P f n R G S all (.cons m true ⟨some d, .slice t x none (some hi) (some mx), ty, pos, af, gd⟩ rest) k L H := by
  refine J_pure hd (fun a ha w => ?_) h
  have hb : (Instr.sliceBounds true len cap none (some (a.eval hi)) (some (a.eval mx))).run P w = .ok (0, q.toNat, r.toNat) w := by
    unfold Instr.sliceBounds
    have e1 : 0 ≤ r ∧ r ≤ (cap : Int) := ⟨by omega, hrc⟩
    have e2 : 0 ≤ q ∧ q ≤ ((r.toNat : Nat) : Int) := ⟨by omega, by omega⟩
    have e4 : q ≤ max r 0 := by omega
    simp [ha.ev hhi, ha.ev hmx, Instr.sliceBound, asIntOf, e1, e2, e4, h0]
  simp only [execOp, ha.ev hx, Instr.sliceAt, Sem.run_bind, run_underlying ht, Result.andThen_ok, hu, Instr.slice, Option.map_some, Option.map_none, hb, run_sizeOf he, Sem.run_pure, sliceAt]
  by_cases hc : (0 : Nat) = r.toNat
  · simp [← hc]
  · simp [hc]
    intro hr0
    exfalso; omega
end
end Go.SL

/- Engine, part X: ranges over functions: the loop's record, its rounds, calls of yield, the statement. Nothing here names a program. -/
set_option linter.unusedVariables false
set_option linter.unusedSimpArgs false
namespace Go.SL
open Go

/-- The record of a loop of an activation whose slots are as told. -/
def loopP (l : Nat) (st : LoopState) (pd : Option Code) (f : FuncId) (n : Nat) (L : Lst) (ps : Array Tmp) (assign body : Code) (r : Nat) : HP := fun h =>
  ∃ tmps : Array Value, (tmps.size = n ∧ ∀ t v, fget L t = some v → tmps[t]? = some v) ∧ pts l (.loop { state := st, pending := pd, fn := f, tmps := tmps, params := ps, assign := assign, body := body, defers := r }) h

/-- What a call of yield does: a round, behind which there is what Post says, and whatever else stood. -/
def CtrY (P : Program) (l : Nat) (args : List Value) (Pre : List HP) (Post : Value → List HP → Prop) : Prop :=
  ∀ G w F, Sat G w (Pre ++ F) → ∃ fn tmps assign body, (Instr.yield l args.toArray).run P w = .ok (.round l fn tmps assign body) w ∧
    ∀ ro, RoundIn (fw ro) 0 P l fn tmps assign body w fun e w' => ∃ v H, e = .returned v ∧ Post v H ∧ Sat G w' (H ++ F)

def putL : List Nat → List Value → Lst → Lst
  | p :: ps, v :: vs, L => putL ps vs ((p, v) :: L)
  | _, _, L => L
def inB (n : Nat) : List Nat → Bool
  | [] => true
  | p :: ps => Nat.blt p n && inB n ps

theorem has_put {n : Nat} : ∀ (ps : List Nat) (vs : List Value) (L : Lst) (tmps : Array Value), inB n ps = true → tmps.size = n → (∀ t v, fget L t = some v → tmps[t]? = some v) →
    Has n (putL ps vs L) { tmps := (ps.zip vs).foldl (fun tmps (x : Nat × Value) => tmps.setIfInBounds x.1 x.2) tmps, defers := [] }
  | [], vs, L, tmps, _, hs, hg => ⟨hs, trivial, hg⟩
  | p :: ps, [], L, tmps, _, hs, hg => ⟨by simpa using hs, trivial, by simpa [putL] using hg⟩
  | p :: ps, v :: vs, L, tmps, hb, hs, hg => by
    simp only [inB, Bool.and_eq_true] at hb
    have h1 : Has n L { tmps := tmps, defers := [] } := ⟨hs, trivial, hg⟩
    have h2 := h1.put hb.1 v
    exact has_put ps vs _ _ hb.2 h2.1 h2.2.2

/-- What is owed at a round's end. -/
def EndsY (R : Ending → World → Prop) (G : Glob) (l : Nat) (F : List HP) (Post : Value → List HP → Prop) : Prop :=
  (G.ro = some l ∧ G.ds = []) ∧ ∀ v H w, Post v H → Sat G w (H ++ F) → R (.returned v) w

section
variable {P : Program} {f : FuncId} {n : Nat} {R : Ending → World → Prop} {G : Glob} {k : List Item} {L : Lst} {H : List HP} {l r : Nat} {st : LoopState} {pd : Option Code} {n0 : Nat} {f0 : FuncId} {L0 : Lst} {ps : Array Tmp} {assign body : Code}

theorem loopP_get {w : World} (hs : Sat G w (loopP l st pd f0 n0 L0 ps assign body r :: H)) : ∃ tmps : Array Value, (tmps.size = n0 ∧ ∀ t v, fget L0 t = some v → tmps[t]? = some v) ∧ Sat G w (pts l (.loop { state := st, pending := pd, fn := f0, tmps := tmps, params := ps, assign := assign, body := body, defers := r }) :: H) := by
  obtain ⟨t, o, u, hp, hpw, h1, h2, ⟨tmps, ht, hA⟩, hH, hd, he⟩ := hs
  exact ⟨tmps, ht, t, o, u, hp, hpw, h1, h2, hA, hH, hd, he⟩
theorem loopP_put {tmps : Array Value} (ht : tmps.size = n0 ∧ ∀ t v, fget L0 t = some v → tmps[t]? = some v) : Ent (pts l (.loop { state := st, pending := pd, fn := f0, tmps := tmps, params := ps, assign := assign, body := body, defers := r }) :: H) (loopP l st pd f0 n0 L0 ps assign body r :: H) :=
  fun h hs => ⟨h, sub.refl h, star_mono (fun h hp => ⟨tmps, ht, hp⟩) (fun _ h => h) hs⟩

/-- A round out of the walk of its body. -/
theorem CtrY.of_K {args : List Value} {Pre : List HP} {Post : Value → List HP → Prop} (hps : Nat.beq ps.toList.length args.length = true) (hin : inB n0 ps.toList = true)
    (h : ∀ G F R, EndsY R G l F Post → K P f0 n0 R G [.code assign, .beginRound, .code body] (putL ps.toList args L0) (loopP l .ready none f0 n0 L0 ps assign body r :: (Pre ++ F))) :
    CtrY P l args (loopP l .ready none f0 n0 L0 ps assign body r :: Pre) Post := by
  intro G w F hw
  obtain ⟨tmps, ht, hw1⟩ := loopP_get (H := Pre ++ F) hw
  have hg := hw1.get (i := 0) rfl
  have hsz : args.toArray.size = ps.size := by have := Nat.eq_of_beq_eq_true hps; simpa using this.symm
  refine ⟨_, _, _, _, run_yield hg hsz, fun ro => ⟨trivial, fun c cs _ => ?_⟩⟩
  have hk := h { G with ro := some l, ds := [] } F (fun e w' => ∃ v H, e = .returned v ∧ Post v H ∧ Sat G w' (H ++ F)) ⟨⟨rfl, rfl⟩, fun v H w' hp hs => ⟨v, H, rfl, hp, hs⟩⟩
  have hz : (ps.zip args.toArray).foldl (fun (tmps : Array Value) (x : Tmp × Value) => tmps.setIfInBounds x.1 x.2) tmps = (ps.toList.zip args).foldl (fun tmps (x : Nat × Value) => tmps.setIfInBounds x.1 x.2) tmps := by
    rw [← Array.foldl_toList, Array.toList_zip]
  have ha : HasG { G with ro := some l, ds := [] } n0 (putL ps.toList args L0) { tmps := (ps.zip args.toArray).foldl (fun (tmps : Array Value) (x : Tmp × Value) => tmps.setIfInBounds x.1 x.2) tmps, defers := [] } := ⟨by rw [hz]; exact has_put ps.toList args L0 tmps hin ht.1 ht.2, rfl⟩
  obtain ⟨v, w', ⟨v', H', he, hp, hs⟩, hst⟩ := hk _ w ha (hw1.ent (loopP_put ht)) (c :: cs) c cs rfl
  cases he
  exact ⟨.returned v, w', ⟨v, H', rfl, hp, hs⟩, (StepsIn.of_steps hst).mono fun m _ => fenced_fw P ro m⟩

theorem K_beginRound {k0 : List Item} (hk : advK 1000 k0 = .mk (.beginRound :: k)) {F : List HP} {Post : Value → List HP → Prop} (hR : EndsY R G l F Post)
    (h : K P f n R G k L (loopP l .busy pd f0 n0 L0 ps assign body r :: H)) : K P f n R G k0 L (loopP l .ready pd f0 n0 L0 ps assign body r :: H) := by
  refine K_advK 1000 hk ?_
  intro a w ha hw cs
  obtain ⟨tmps, ht, hw1⟩ := loopP_get hw
  have hg := hw1.get (i := 0) rfl
  have hb := run_beginRound (P := P) hg rfl
  have hw2 := (hw1.set0 (o' := .loop { state := .busy, pending := pd, fn := f0, tmps := tmps, params := ps, assign := assign, body := body, defers := r })).ent (loopP_put ht)
  exact (h a _ ha hw2 cs).of_steps (.one (stepR_beginRound (b := ({ (default : Frame) with fn := f, kind := .normal, roundOf := G.ro } : Frame)) hR.1.1 hb))
theorem round_end {a : Act} {w w' : World} {k1 : List Item} {cs : List Frame} {v : Value} (hro : G.ro = some l) (hR : R (.returned v) w') (hs : ∀ c cs', step P (lone (bf G.ro f a k1) (c :: cs') w) = .next (lone (c.finish v) cs' w')) : Owed P f R cs (lone (bf G.ro f a k1) cs w) G.ro := by
  rw [hro] at hs ⊢
  intro c cs' hcs
  subst hcs
  exact ⟨v, w', hR, .one (hs c cs')⟩
theorem endRound_sat {w : World} (jump : Option Code) (hw : Sat G w (loopP l st pd f0 n0 L0 ps assign body r :: H)) : ∃ w', (Instr.endRound l jump).run P w = .ok (.bool jump.isNone) w' ∧ Sat G w' (loopP l (if jump.isNone then .ready else .done) jump f0 n0 L0 ps assign body r :: H) := by
  obtain ⟨tmps, ht, hw1⟩ := loopP_get hw
  have hg := hw1.get (i := 0) rfl
  exact ⟨_, run_endRound (P := P) jump hg, (hw1.set0 (o' := .loop { state := if jump.isNone then .ready else .done, pending := jump, fn := f0, tmps := tmps, params := ps, assign := assign, body := body, defers := r })).ent (loopP_put ht)⟩
/-- The end of a round: off its end; by a return; by a jump out of it. -/
theorem K_roundEnd {k0 : List Item} {F Hq : List HP} {Post : Value → List HP → Prop} (hR : EndsY R G l F Post) (hk : advK 1000 k0 = .mk []) (he : Ent H (loopP l st pd f0 n0 L0 ps assign body r :: (Hq ++ F)))
    (hp : Post (.bool true) (loopP l .ready none f0 n0 L0 ps assign body r :: Hq)) : K P f n R G k0 L H := by
  refine K_advK 1000 hk ?_
  intro a w ha hw cs
  obtain ⟨w', h1, h2⟩ := endRound_sat (P := P) none (hw.ent he)
  exact round_end hR.1.1 (hR.2 _ _ w' hp h2) fun c cs' => stepR_round_end (b := ({ (default : Frame) with fn := f, kind := .normal, roundOf := G.ro } : Frame)) hR.1.1 rfl h1
theorem K_roundRet {k0 : List Item} {F Hq : List HP} {Post : Value → List HP → Prop} (hR : EndsY R G l F Post) (hk : advK 1000 k0 = .mk (.code .ret :: k)) (he : Ent H (loopP l st pd f0 n0 L0 ps assign body r :: (Hq ++ F)))
    (hp : Post (.bool false) (loopP l .done (some .ret) f0 n0 L0 ps assign body r :: Hq)) : K P f n R G k0 L H := by
  refine K_advK 1000 hk ?_
  intro a w ha hw cs
  obtain ⟨w', h1, h2⟩ := endRound_sat (P := P) (some .ret) (hw.ent he)
  exact round_end hR.1.1 (hR.2 _ _ w' hp h2) fun c cs' => stepR_round_ret (b := ({ (default : Frame) with fn := f, kind := .normal, roundOf := G.ro } : Frame)) hR.1.1 rfl h1
theorem K_roundExit {k0 : List Item} {id : Nat} {F Hq : List HP} {Post : Value → List HP → Prop} (hR : EndsY R G l F Post) (hk : advK 1000 k0 = .mk (.code (.exit id) :: k)) (hx : exitTo id k = none) (he : Ent H (loopP l st pd f0 n0 L0 ps assign body r :: (Hq ++ F)))
    (hp : Post (.bool false) (loopP l .done (some (.exit id)) f0 n0 L0 ps assign body r :: Hq)) : K P f n R G k0 L H := by
  refine K_advK 1000 hk ?_
  intro a w ha hw cs
  obtain ⟨w', h1, h2⟩ := endRound_sat (P := P) (some (.exit id)) (hw.ent he)
  exact round_end hR.1.1 (hR.2 _ _ w' hp h2) fun c cs' => stepR_round_exit (b := ({ (default : Frame) with fn := f, kind := .normal, roundOf := G.ro } : Frame)) hR.1.1 rfl hx h1

/-- The statement, at an outermost loop: the function that is ranged over, by its contract for whatever loop. -/
theorem K_range {k0 : List Item} {g : Operand} {gid : FuncId} {cap : Array Value} {Pre : Nat → Nat → List HP} {Fr : List HP} {Post : Nat → Nat → Value → List HP → Prop} (hk : advK 1000 k0 = .mk (.code (.rangeFunc g ps assign body) :: k)) (hro : G.ro = none)
    (hg : ev L g = some (.func (.func gid) #[] cap))
    (c : ∀ l r, Ctr P gid (.func (.yield l) #[] #[] :: cap.toList) (loopP l .ready none f n L ps assign body r :: Pre l r) (Post l r)) (he : ∀ l r, Ent H (Pre l r ++ Fr))
    (hend : ∀ l r v H', Post l r v H' → ∃ st pd H'', H' = loopP l st pd f n L ps assign body r :: H'' ∧ st ≠ .busy ∧
      K P f n R { G with ds := r :: G.ds } ((pd.map Item.code).toList ++ k) L (H'' ++ (pts r (.deferred (some [])) :: Fr))) : K P f n R G k0 L H := by
  refine K_advK 1000 hk ?_
  intro a w ha hw cs
  let b : Frame := { (default : Frame) with fn := f, kind := .normal, roundOf := G.ro }
  have hen := run_enterLoop_outer (P := P) (w := w) f a.tmps ps assign body
  rw [← hro] at hen
  have hw1 : Sat G ((w.alloc (.deferred (some []))).alloc (.loop { state := .ready, pending := none, fn := f, tmps := a.tmps, params := ps, assign, body, defers := w.heap.size }))
      (loopP (w.heap.size + 1) .ready none f n L ps assign body w.heap.size :: (Pre (w.heap.size + 1) w.heap.size ++ (pts w.heap.size (.deferred (some [])) :: Fr))) := by
    have h1 := hw.alloc (.deferred (some []))
    have h2 := h1.alloc (.loop { state := .ready, pending := none, fn := f, tmps := a.tmps, params := ps, assign := assign, body := body, defers := w.heap.size })
    have hsz : ({ w with heap := w.heap.push (.deferred (some [])) } : World).heap.size = w.heap.size + 1 := by simp
    rw [hsz] at h2
    refine Sat.ent h2 ?_
    refine (loopP_put ⟨ha.1.1, ha.1.2.2⟩).trans (Ent.cons _ ?_)
    refine (Ent.cons _ (he (w.heap.size + 1) w.heap.size)).trans ?_
    exact Ent.perm (List.perm_middle.symm)
  have hres : (resolve a.eval (rangeCall g (w.heap.size + 1)) 0).run P ((w.alloc (.deferred (some []))).alloc (.loop { state := .ready, pending := none, fn := f, tmps := a.tmps, params := ps, assign, body, defers := w.heap.size })) = .ok { target := .fn (.func gid) cap, args := #[.func (.yield (w.heap.size + 1)) #[] #[]] } ((w.alloc (.deferred (some []))).alloc (.loop { state := .ready, pending := none, fn := f, tmps := a.tmps, params := ps, assign, body, defers := w.heap.size })) := by
    simp only [resolve, rangeCall, Sem.run_bind, ha.ev hg, Deferred.ofValue, Sem.run_pure, Result.andThen_ok]
    simp [Act.eval]
  have hinv : (invoke (.fn (.func gid) cap) #[.func (.yield (w.heap.size + 1)) #[] #[]]).run P ((w.alloc (.deferred (some []))).alloc (.loop { state := .ready, pending := none, fn := f, tmps := a.tmps, params := ps, assign, body, defers := w.heap.size })) = .ok (.enter gid (Value.func (.yield (w.heap.size + 1)) #[] #[] :: cap.toList).toArray) ((w.alloc (.deferred (some []))).alloc (.loop { state := .ready, pending := none, fn := f, tmps := a.tmps, params := ps, assign, body, defers := w.heap.size })) := by
    simp only [invoke]
    rw [run_callFunc (c (w.heap.size + 1) w.heap.size).1]
    congr 2
    apply Array.ext'; simp
  have henter := stepR_rangeFunc (P := P) (b := b) (a := a) (k := k) (cs := cs) (w := w) (ps := ps) (assign := assign) (body := body) (g := g) hen hres hinv
  obtain ⟨e, w3, fr, ⟨v, H', rfl, hpost, hs3⟩, hcomes, hfn, hleave⟩ := (c (w.heap.size + 1) w.heap.size).2 G _ (pts w.heap.size (.deferred (some [])) :: Fr) hw1 (b.atR { a with defers := [{ target := .collected w.heap.size, args := #[] }] ++ a.defers } (.inRangeFunc (w.heap.size + 1) :: k) :: cs)
  obtain ⟨st, pd, H'', rfl, hst, hK⟩ := hend _ _ _ _ hpost
  obtain ⟨tmps, ht, hs4⟩ := loopP_get (H := H'' ++ (pts w.heap.size (.deferred (some [])) :: Fr)) hs3
  have hg4 := hs4.get (i := 0) rfl
  have hend4 := run_endLoop (P := P) hg4 hst
  have hs5 := (hs4.set0 (o' := .loop { state := .exhausted, pending := pd, fn := f, tmps := tmps, params := ps, assign := assign, body := body, defers := w.heap.size })).ent (Ent.drop _ _)
  have hback : step P (lone fr (b.atR { a with defers := [{ target := .collected w.heap.size, args := #[] }] ++ a.defers } (.inRangeFunc (w.heap.size + 1) :: k) :: cs) w3) = .next (lone (b.atR { a with defers := [{ target := .collected w.heap.size, args := #[] }] ++ a.defers } (.endRangeFunc (w.heap.size + 1) :: k)) cs w3) := by
    rw [← finish_atR_inRangeFunc (w.heap.size + 1) v]; exact step_leave_returned hleave
  have hlast := stepR_endRangeFunc (P := P) (b := b) (a := { a with defers := [{ target := .collected w.heap.size, args := #[] }] ++ a.defers }) (k := k) (cs := cs) hend4
  have hok := hK { a with defers := [{ target := .collected w.heap.size, args := #[] }] ++ a.defers } _ ⟨⟨ha.1.1, trivial, ha.1.2.2⟩, by rw [show ({ G with ds := w.heap.size :: G.ds } : Glob).ds = w.heap.size :: G.ds from rfl, List.map_cons, ha.2]; rfl⟩ hs5 cs
  exact Owed.of_steps (Steps.trans (.one henter) (Steps.trans hcomes (Steps.trans (.one hback) (.one hlast)))) hok

variable {S : World → Prop} {all : Array Oper} {rest : Pl} {d : Tmp} {ty : TypeId} {pos : String} {af : Array Edge} {gd : Option (Nat × Bool)}
/-- A call of yield. -/
theorem J_yield {fo : Operand} {args : Array Operand} {tys : Array TypeId} {vs : List Value} {Pre Fr : List HP} {Post : Value → List HP → Prop} (hd : Nat.blt d n = true)
    (hf : ev L fo = some (.func (.yield l) #[] #[])) (hargs : evs L args.toList [] = .mk vs) (c : CtrY P l vs Pre Post) (he : Ent H (Pre ++ Fr))
    (h : ∀ v H', Post v H' → J P f n R G S all rest k ((d, v) :: L) (H' ++ Fr))
    (hS : ∀ v H' w, Post v H' → Sat G w (H' ++ Fr) → Sx rest S w) :
    J P f n R G S all (.cons false true ⟨some d, .call { callee := .value fo, args := args, argTypes := tys }, ty, pos, af, gd⟩ rest) k L H := by
  intro a w ha hw _
  refine .inl ⟨.inl rfl, .inr ⟨rfl, ?_⟩⟩
  obtain ⟨fn, tmps, asg, bdy, hy, hr⟩ := c G w Fr (hw.ent he)
  have hr1 : (execOp a.eval ⟨some d, .call { callee := .value fo, args := args, argTypes := tys }, ty, pos, af, gd⟩).run P w = .ok (.round l fn tmps asg bdy) w := by
    simp only [execOp, resolve, Sem.run_bind, ha.ev hf, Deferred.ofValue, Sem.run_pure, Result.andThen_ok, invoke]
    rw [evs_arr ha.1 _ _ hargs]
    simpa using hy
  refine wpIn_other (fun c hc => by cases hc) hr1 ⟨fun h => by simp [fw] at h, RoundIn.mono (hr G.ro) ?_⟩
  rintro e w' ⟨v, H', rfl, hpost, hw'⟩
  exact ⟨hS v H' w' hpost hw', h v H' hpost _ w' (ha.put hd v) hw' (hS v H' w' hpost hw')⟩
end
end Go.SL

/- files: the disk as plain data, what each call makes of it, and how it lies in memory. No program is named here but by the numbers of types that the memory's rows bear (parameters). -/
set_option linter.unusedVariables false
namespace Go.SL
theorem Ent.unsep (l H : List HP) : Ent (Sep l :: H) (l ++ H) := fun h hs => ⟨h, sub.refl h, Sep_append' hs⟩
theorem Ent.resep (l H : List HP) : Ent (l ++ H) (Sep l :: H) := fun h hs => ⟨h, sub.refl h, Sep_append hs⟩

/-! ## rows of bytes that nobody writes any more -/
abbrev Arrs := List (Nat × List Value)
def arrS (e : TypeId) (M : Arrs) : HP := Sep (M.map fun x => pts x.1 (cl x.2 e))
/-- The slice v holds the bytes bs, in one of these rows. -/
def BIn (M : Arrs) (v : Value) (bs : List UInt8) : Prop :=
  ∃ a cap, v = .slice a bs.length cap ∧ bs.length ≤ cap ∧ (bs = [] ∨ ∃ b o cs, a = Option.some ⟨b, o, none⟩ ∧ (b, cs) ∈ M ∧ (cs.drop o).take bs.length = bV bs)
theorem BIn.mono {M M' : Arrs} {v : Value} {bs : List UInt8} (h : BIn M v bs) (hs : ∀ x ∈ M, x ∈ M') : BIn M' v bs := by
  obtain ⟨a, cap, hv, hc, h0 | ⟨b, o, cs, ha, hm, ht⟩⟩ := h
  · exact ⟨a, cap, hv, hc, .inl h0⟩
  · exact ⟨a, cap, hv, hc, .inr ⟨b, o, cs, ha, hs _ hm, ht⟩⟩
theorem BIn.nil (M : Arrs) (a : Option Addr) (cap : Nat) : BIn M (.slice a 0 cap) [] := ⟨a, cap, rfl, Nat.zero_le _, .inl rfl⟩
theorem Sep_mem {l : List HP} {A : HP} {h : Hp} (hA : A ∈ l) (hs : Sep l h) : ∃ h', sub h' h ∧ A h' := by
  obtain ⟨i, hi⟩ := List.getElem?_of_mem hA
  exact star_left (Sep_perm (perm_of_get hi) h hs)
theorem BIn.view {M : Arrs} {v : Value} {bs : List UInt8} (h : BIn M v bs) (e : TypeId) : Vw (arrS e M) v bs.length (bV bs) := by
  obtain ⟨a, cap, rfl, _, h0 | ⟨b, o, cs, ha, hm, ht⟩⟩ := h
  · subst h0; exact ⟨a, cap, rfl, .inl rfl⟩
  · have h1 : Vw (pts b (cl cs e)) (.slice a bs.length cap) bs.length (bV bs) := by
      rw [ha]; exact Vw.pts (by rw [bV_length]; exact ht)
    refine h1.mono fun h hs => ?_
    exact Sep_mem (List.mem_map.2 ⟨(b, cs), hm, rfl⟩) hs
theorem BIn.shape {M : Arrs} {v : Value} {bs : List UInt8} (h : BIn M v bs) : ∃ a cap, v = .slice a bs.length cap ∧ bs.length ≤ cap := by
  obtain ⟨a, cap, hv, hc, _⟩ := h; exact ⟨a, cap, hv, hc⟩
/-- A new row among them. -/
theorem arrS_add (e : TypeId) (b : Nat) (cs : List Value) (M : Arrs) (H : List HP) : Ent (pts b (cl cs e) :: arrS e M :: H) (arrS e ((b, cs) :: M) :: H) :=
  Ent.fold (B := [_, _]) fun h hs => ⟨h, sub.refl h, star_mono (fun _ h => h) (fun _ h => Sep_one h) hs⟩
theorem BIn.row {M : Arrs} {b cap : Nat} {bs : List UInt8} (hc : bs.length ≤ cap) : BIn ((b, bV bs) :: M) (.slice (Option.some ⟨b, 0, none⟩) bs.length cap) bs :=
  ⟨_, cap, rfl, hc, .inr ⟨b, 0, bV bs, rfl, by simp, by rw [← bV_length]; simp⟩⟩
/-- A slice of its own becomes one of these. -/
theorem arrS_slc (e : TypeId) (v : Value) (bs : List UInt8) (M : Arrs) : ∀ h, star (slc e 1 v bs.length (bV bs)) (arrS e M) h → ∃ M', BIn M' v bs ∧ (∀ x ∈ M, x ∈ M') ∧ arrS e M' h := by
  rintro h ⟨h1, h2, ⟨hl, ⟨a, rfl, hn, he⟩ | ⟨b, o, cap, pre, junk, rfl, hp, hn, hc, hpt⟩⟩, hM, hd, hj⟩
  · have hb : bs = [] := List.eq_nil_of_length_eq_zero hn
    subst hb
    exact ⟨M, BIn.nil M a 0, fun _ h => h, emp_star ⟨h1, h2, he, hM, hd, hj⟩⟩
  · refine ⟨(b, pre ++ bV bs ++ junk) :: M, ⟨_, cap, rfl, hn, .inr ⟨b, o, pre ++ bV bs ++ junk, rfl, by simp, ?_⟩⟩, fun x hx => by simp [hx], ⟨h1, h2, hpt, hM, hd, hj⟩⟩
    subst hp
    rw [List.append_assoc, List.drop_left, ← bV_length bs, List.take_left]
/-- A part of what a slice holds. -/
theorem BIn.tail {M : Arrs} {b o n cap : Nat} {x : UInt8} {bs : List UInt8} (h : BIn M (.slice (Option.some ⟨b, o, none⟩) n cap) (x :: bs)) (o' cap' : Nat) (h1 : bs ≠ [] → o' = o + 1) (hc' : bs.length ≤ cap') : BIn M (.slice (Option.some ⟨b, o', none⟩) bs.length cap') bs := by
  by_cases h0 : bs = []
  · subst h0; exact BIn.nil _ _ _
  · have := h1 h0
    subst this
    obtain ⟨a, cap2, hv, _, h2 | ⟨b', o2, cs, ha, hm, ht⟩⟩ := h
    · cases h2
    · simp only [Value.slice.injEq] at hv
      obtain ⟨rfl, _, rfl⟩ := hv
      simp only [Option.some.injEq, Addr.mk.injEq, and_true] at ha
      obtain ⟨rfl, rfl⟩ := ha
      refine ⟨_, cap', rfl, hc', .inr ⟨b, o + 1, cs, rfl, hm, ?_⟩⟩
      rw [List.length_cons] at ht
      rw [show o + 1 = 1 + o by omega, ← List.drop_drop]
      have h3 := congrArg (List.drop 1) ht
      rw [List.drop_take] at h3
      simpa [bV, Nat.add_comm] using h3

/-- A piece of what a slice holds. -/
theorem BIn.piece {M : Arrs} {b o n cap : Nat} {bs : List UInt8} (h : BIn M (.slice (Option.some ⟨b, o, none⟩) n cap) bs) (o' cap' p k : Nat) (hpk : p + k ≤ bs.length) (h1 : k ≠ 0 → o' = o + p) (hc' : k ≤ cap') : BIn M (.slice (Option.some ⟨b, o', none⟩) k cap') ((bs.drop p).take k) := by
  have hl : ((bs.drop p).take k).length = k := by rw [List.length_take, List.length_drop]; omega
  by_cases h0 : k = 0
  · subst h0; rw [List.take_zero]; exact BIn.nil _ _ _
  · have := h1 h0
    subst this
    obtain ⟨a, cap2, hv, _, h2 | ⟨b', o2, cs, ha, hm, ht⟩⟩ := h
    · subst h2; simp only [List.length_nil] at hpk; omega
    · simp only [Value.slice.injEq] at hv
      obtain ⟨rfl, _, rfl⟩ := hv
      simp only [Option.some.injEq, Addr.mk.injEq, and_true] at ha
      obtain ⟨rfl, rfl⟩ := ha
      refine ⟨_, cap', by rw [hl], by rw [hl]; exact hc', .inr ⟨b, o + p, cs, rfl, hm, ?_⟩⟩
      rw [hl, ← List.drop_drop]
      have h3 := congrArg (fun l => (l.drop p).take k) ht
      simp only [List.drop_take, List.take_take] at h3
      rw [show min k (bs.length - p) = k by omega] at h3
      rw [h3]
      simp only [bV, List.map_drop, List.map_take]
theorem BIn.cut {M : Arrs} {a : Option Addr} {n cap : Nat} {bs : List UInt8} (h : BIn M (.slice a n cap) bs) (p k : Nat) (hpk : p + k ≤ bs.length) : BIn M (.slice (sliceAt a cap p 1) k (cap - p)) ((bs.drop p).take k) := by
  obtain ⟨a', cap', hv, hc, h0⟩ := h
  simp only [Value.slice.injEq] at hv
  obtain ⟨rfl, hn, rfl⟩ := hv
  by_cases hk : k = 0
  · subst hk; rw [List.take_zero]; exact BIn.nil _ _ _
  · rcases h0 with h0 | ⟨b, o, cs, rfl, hm, ht⟩
    · subst h0; simp only [List.length_nil] at hpk; omega
    · have e : sliceAt (Option.some ⟨b, o, none⟩) cap p 1 = Option.some ⟨b, o + p, none⟩ := by
        unfold sliceAt
        rw [if_neg (by omega), Option.map_some, Addr.add_eq, Nat.mul_one]
      rw [e]
      exact BIn.piece (o := o) (n := bs.length) (cap := cap) ⟨_, _, rfl, hc, .inr ⟨b, o, cs, rfl, hm, ht⟩⟩ _ _ p k hpk (fun _ => rfl) (by omega)
/-! ## stores: many assertions of one make, as one -/
def stock {α : Type} (g : α → HP) (l : List α) : HP := Sep (l.map g)
theorem stock_out {α : Type} (g : α → HP) {l : List α} {i : Nat} {x : α} (hi : l[i]? = Option.some x) (H : List HP) : Ent (stock g l :: H) (g x :: stock g (l.eraseIdx i) :: H) := fun h hs => by
  refine ⟨h, sub.refl h, star_assoc' (star_mono (fun h hs => ?_) (fun _ h => h) hs)⟩
  have h1 : (l.map g)[i]? = Option.some (g x) := by simp [hi]
  have h2 := Sep_perm (perm_of_get h1) h hs
  rw [← map_eraseIdx'] at h2
  exact h2
theorem stock_in {α : Type} (g : α → HP) {l : List α} {i : Nat} {x : α} (hi : l[i]? = Option.some x) (H : List HP) : Ent (g x :: stock g (l.eraseIdx i) :: H) (stock g l :: H) := fun h hs => by
  refine ⟨h, sub.refl h, star_mono (fun h hs => ?_) (fun _ h => h) (star_assoc hs)⟩
  have h1 : (l.map g)[i]? = Option.some (g x) := by simp [hi]
  refine Sep_perm (perm_of_get h1).symm h ?_
  rw [← map_eraseIdx']
  exact hs
/-- Put back as another one, in the same place. -/
theorem stock_set {α : Type} (g : α → HP) {l : List α} {i : Nat} {x y : α} (hi : l[i]? = Option.some x) (H : List HP) : Ent (g y :: stock g (l.eraseIdx i) :: H) (stock g (l.set i y) :: H) := by
  have hlt : i < l.length := by
    rcases Nat.lt_or_ge i l.length with h | h
    · exact h
    · rw [List.getElem?_eq_none h] at hi; cases hi
  have h1 : (l.set i y)[i]? = Option.some y := by simp [hlt]
  have h2 := stock_in g h1 H
  have h3 : (l.set i y).eraseIdx i = l.eraseIdx i := by
    clear hi h1 h2
    induction l generalizing i with
    | nil => simp
    | cons z l ih => cases i with
      | zero => simp
      | succ i => simp at hlt ⊢; exact ih hlt
  rw [h3] at h2
  exact h2
theorem stock_add {α : Type} (g : α → HP) (x : α) (l : List α) (H : List HP) : Ent (g x :: stock g l :: H) (stock g (x :: l) :: H) := fun h hs => ⟨h, sub.refl h, star_assoc hs⟩
theorem stock_mem {α : Type} {g : α → HP} {l : List α} {x : α} (hx : x ∈ l) {h : Hp} (hs : stock g l h) : ∃ h', sub h' h ∧ g x h' := Sep_mem (List.mem_map.2 ⟨x, hx, rfl⟩) hs

theorem arrS_nil (e : TypeId) (H : List HP) : Ent H (arrS e [] :: H) := Ent.addEmp H
theorem stock_nil {α : Type} (g : α → HP) (H : List HP) : Ent H (stock g [] :: H) := Ent.addEmp H
/-! ## the disk as plain data -/
structure Ab where
  room : Nat
  fs : List (Nat × List UInt8 × List UInt8)
  names : List (ByteArray × Nat)
  states : List (List (ByteArray × Nat))
  writes : List (Nat × Nat × List UInt8)
  plan : List UInt8
  off : Bool
namespace Ab
def meet (A : Ab) (may : Bool) : Nat × Ab :=
  if may = false then (1, A) else if A.off = true then (7, A) else match A.plan with
  | [] => (0, A)
  | x :: p => if x = 1 then (6, { A with plan := p }) else if x = 2 then (7, { A with plan := p, off := true }) else (0, { A with plan := p })
def lookIn (l : List (ByteArray × Nat)) (name : ByteArray) : Option Nat := (l.find? fun x => decide (x.1 = name)).map (·.2)
def look (A : Ab) (name : ByteArray) : Option Nat := lookIn A.names name
def file (A : Ab) (f : Nat) : List UInt8 × List UInt8 := ((A.fs.find? fun x => decide (x.1 = f)).map (·.2)).getD ([], [])
def now (A : Ab) (f : Nat) : List UInt8 := (A.file f).1
def sure (A : Ab) (f : Nat) : List UInt8 := (A.file f).2
def find (A : Ab) (name : ByteArray) (may : Bool) : Nat × Option Nat × Ab :=
  if (A.meet may).1 = 0 then match (A.meet may).2.look name with
    | none => (4, none, (A.meet may).2)
    | some f => (0, some f, (A.meet may).2)
  else ((A.meet may).1, none, (A.meet may).2)
def used (A : Ab) : Nat := (A.names.map fun x => (A.now x.2).length).sum
def new (room : Nat) : Ab := ⟨room, [], [], [[]], [], [], false⟩
def setN (l : List (ByteArray × Nat)) (k : ByteArray) (f : Nat) : List (ByteArray × Nat) := if (lookIn l k).isSome then l.map (fun x => if x.1 = k then (k, f) else x) else l ++ [(k, f)]
def delN (l : List (ByteArray × Nat)) (k : ByteArray) : List (ByteArray × Nat) := l.filter fun x => !decide (x.1 = k)
/-- Names changed. -/
def chg (A : Ab) (nm : List (ByteArray × Nat)) : Ab := { A with names := nm, states := A.states ++ [nm] }
def create (A : Ab) (ok : Bool) (name : ByteArray) (f : Nat) : Nat × Ab :=
  if (A.meet ok).1 = 0 then
    if ((A.meet ok).2.look name).isSome then (5, (A.meet ok).2)
    else if 200 ≤ (A.meet ok).2.names.length then (3, (A.meet ok).2)
    else (0, { (A.meet ok).2.chg ((A.meet ok).2.names ++ [(name, f)]) with fs := (f, [], []) :: (A.meet ok).2.fs })
  else ((A.meet ok).1, (A.meet ok).2)
def remove (A : Ab) (ok : Bool) (name : ByteArray) : Nat × Ab := match A.find name ok with
  | (0, some _, A1) => (0, A1.chg (delN A1.names name))
  | (e, _, A1) => (e, A1)
def rename (A : Ab) (ok : Bool) (old name : ByteArray) : Nat × Ab := match A.find old ok with
  | (0, some f, A1) => (0, A1.chg (setN (delN A1.names old) name f))
  | (e, _, A1) => (e, A1)
def upd (fs : List (Nat × List UInt8 × List UInt8)) (f : Nat) (n : List UInt8) : List (Nat × List UInt8 × List UInt8) := fs.map fun x => if x.1 = f then (x.1, n, x.2.2) else x
def write (A : Ab) (ok : Bool) (name : ByteArray) (at_ : Nat) (b : List UInt8) : Nat × Ab :=
  if (A.find name ok).1 = 0 then match (A.find name ok).2.1 with
    | some f => if (A.find name ok).2.2.room < (A.find name ok).2.2.used + (at_ + b.length - ((A.find name ok).2.2.now f).length) then (3, (A.find name ok).2.2)
      else (0, { (A.find name ok).2.2 with fs := upd (A.find name ok).2.2.fs f (wroteL ((A.find name ok).2.2.now f) at_ b), writes := (A.find name ok).2.2.writes ++ [(f, at_, b)] })
    | none => (0, (A.find name ok).2.2)
  else ((A.find name ok).1, (A.find name ok).2.2)
def size (A : Ab) (name : ByteArray) : Nat × Nat := match A.look name with
  | none => (0, 4)
  | some f => ((A.now f).length, 0)
def read (A : Ab) (name : ByteArray) (at_ n : Int) : List UInt8 × Nat :=
  if A.off = true then ([], 7) else match A.look name with
    | none => ([], 4)
    | some f => if at_ < 0 ∨ n < 0 ∨ ((A.now f).length : Int) < at_ ∨ ((A.now f).length : Int) - at_ < n then ([], 1) else (((A.now f).drop at_.toNat).take n.toNat, 0)
def syncNames (A : Ab) : Nat × Ab := if (A.meet true).1 = 0 then (0, { (A.meet true).2 with states := [(A.meet true).2.names] }) else ((A.meet true).1, (A.meet true).2)
def updS (fs : List (Nat × List UInt8 × List UInt8)) (f : Nat) : List (Nat × List UInt8 × List UInt8) := fs.map fun x => if x.1 = f then (x.1, x.2.1, x.2.1) else x
def sync (A : Ab) (ok : Bool) (name : ByteArray) : Nat × Ab :=
  if (A.find name ok).1 = 0 then match (A.find name ok).2.1 with
    | some f => (0, { (A.find name ok).2.2 with fs := updS (A.find name ok).2.2.fs f, writes := (A.find name ok).2.2.writes.filter fun x => !decide (x.1 = f) })
    | none => (0, (A.find name ok).2.2)
  else ((A.find name ok).1, (A.find name ok).2.2)
/-- What is kept of one write: whole if it is told, or cut, or nothing. -/
def kept (stay : List UInt8) (torn cut : Int) (i : Nat) (b : List UInt8) : Option (List UInt8) :=
  if (i : Int) = torn then (let c := b.take (max 0 (min cut b.length)).toNat; if c = [] then none else some c)
  else if (i / 8 < stay.length ∧ ((stay.getD (i / 8) 0).toNat / 2 ^ (i % 8)) % 2 = 1) then some b else none
def updSure (fs : List (Nat × List UInt8 × List UInt8)) (f : Nat) (s : List UInt8) : List (Nat × List UInt8 × List UInt8) := fs.map fun x => if x.1 = f then (x.1, x.2.1, s) else x
/-- The writes that last, in their order, from number i on. -/
def lasts (stay : List UInt8) (torn cut : Int) : Nat → List (Nat × Nat × List UInt8) → List (Nat × List UInt8 × List UInt8) → List (Nat × List UInt8 × List UInt8)
  | _, [], fs => fs
  | i, w :: ws, fs => match kept stay torn cut i w.2.2 with
    | none => lasts stay torn cut (i + 1) ws fs
    | some c => lasts stay torn cut (i + 1) ws (updSure fs w.1 (wroteL (((fs.find? fun x => decide (x.1 = w.1)).map (·.2)).getD ([], [])).2 w.2.1 c))
def reach (sts : List (List (ByteArray × Nat))) : List Nat := sts.flatMap fun st => st.map (·.2)
def crash (A : Ab) (last : Int) (stay : List UInt8) (torn cut : Int) : Ab :=
  let nm := A.states.getD (max 0 (min last (A.states.length - 1))).toNat []
  let fs := lasts stay torn cut 0 A.writes A.fs
  { A with names := nm, states := [nm], writes := [], plan := [], off := false, fs := fs.map fun x => if x.1 ∈ reach (A.states ++ [nm]) then (x.1, x.2.2, x.2.2) else x }
end Ab
end Go.SL

/- Engine, part N: append in place and anew, over rows that are told; cap; a slice with a third bound; slices.overlaps. Nothing here names a program. -/
set_option linter.unusedVariables false
set_option linter.unusedSimpArgs false
namespace Go.SL
section
variable {P : Program} {U : Tr} [hU : TabOk P U] {f : FuncId} {n : Nat} {R : Ending → World → Prop} {G : Glob} {k : List Item} {L : Lst} {H H' : List HP} {S : World → Prop} {all : Array Oper} {rest : Pl}
  {ty : TypeId} {pos : String} {af : Array Edge} {gd : Option (Nat × Bool)} {m : Bool} {d : Tmp}
theorem run_appendIn {t t2 elem rty : TypeId} {ty' t2' te : Ty} {v2 : Value} {b o kk cap mm : Nat} {l news l' : List Value} {e : TypeId} {A : HP} {w : World} (i j : Nat)
    (ht : U.get t = some ty') (hu : ty'.und = .slice elem) (h2 : U.get t2 = some t2') (h2n : ∀ q, t2'.und ≠ .int q) (he : U.get elem = some te) (hw : Sat G w H)
    (hi : getL H i = some (pts b (cl l e))) (hj : getL H j = some A) (hv2 : Vw A v2 mm news) (hl2 : news.length = mm * te.info.size) (hone : ∀ u ∈ news, u.oneCell' = true) (hroom : kk + mm ≤ cap)
    (hfit : o + (kk + mm) * te.info.size ≤ l.length) (hl' : l' = l.take (o + kk * te.info.size) ++ news ++ l.drop (o + (kk + mm) * te.info.size)) :
    (Builtin.append_ #[t, t2] rty #[.slice (some ⟨b, o, none⟩) kk cap, v2]).run P w = .ok (.slice (some ⟨b, o, none⟩) (kk + mm) cap) { w with heap := w.heap.setIfInBounds b (cl l' e) } := by
  have hf := run_first (P := P) hv2 hw hj hl2
  have hnz : (t2'.und matches .int _) = false := by
    cases hq : t2'.und <;> first | rfl | exact absurd hq (h2n _)
  have hzeros : ∀ {w : World}, (underlying t2).run P w = .ok t2'.und w := fun {w} => run_underlying h2 w
  obtain ⟨a2, c2, hv', _⟩ := hv2
  subst hv'
  have hst := run_storeCells (P := P) news 0 (o + kk * te.info.size) l w (hw.getP hi) (by rw [hl2]; rw [Nat.add_mul] at hfit; omega) hone
  have e1 : o + kk * te.info.size + news.length = o + (kk + mm) * te.info.size := by rw [hl2, Nat.add_mul]; omega
  simp only [Nat.add_zero, e1, ← hl'] at hst
  simp [Builtin.append_, run_underlying ht, hu, run_sizeOf he, hzeros, hnz, Builtin.lenOf, hroom, hf, Addr.add_eq, hst]
/-- append where there is room: into the row itself; what is put there may lie in the same row. -/
theorem J_appendIn {x y : Operand} {t t2 elem : TypeId} {ty' t2' te : Ty} {v2 : Value} {b o kk cap mm : Nat} {l news l' : List Value} {e : TypeId} {A : HP} (i j : Nat) (hd : Nat.blt d n = true)
    (hx : ev L x = some (.slice (some ⟨b, o, none⟩) kk cap)) (hy : ev L y = some v2) (ht : U.get t = some ty') (hu : ty'.und = .slice elem) (h2 : U.get t2 = some t2') (h2n : (match t2'.und with | .int _ => false | _ => true) = true) (he : U.get elem = some te)
    (hi : getL H i = some (pts b (cl l e))) (hj : getL H j = some A) (hv2 : Vw A v2 mm news) (hl2 : news.length = mm * te.info.size) (hone : ∀ u ∈ news, u.oneCell' = true) (hroom : kk + mm ≤ cap)
    (hfit : o + (kk + mm) * te.info.size ≤ l.length) (hl' : l' = l.take (o + kk * te.info.size) ++ news ++ l.drop (o + (kk + mm) * te.info.size)) (hp : putP i (pts b (cl l' e)) H [] = .mk H')
    (hS : ∀ w, Sat G w H' → Sx rest S w)
    (h : J P f n R G S all rest k ((d, .slice (some ⟨b, o, none⟩) (kk + mm) cap) :: L) H') :
    J P f n R G S all (.cons false true ⟨some d, .call { callee := .builtin .append, args := #[x, y], argTypes := #[t, t2] }, ty, pos, af, gd⟩ rest) k L H := by
  refine J_act hd (fun u H1 => u = .slice (some ⟨b, o, none⟩) (kk + mm) cap ∧ H1 = H') (fun a w ha hw => ?_) ?_ ?_
  · have hr := run_appendIn (P := P) (rty := ty) i j ht hu h2 (fun q e => by rw [e] at h2n; cases h2n) he hw hi hj hv2 hl2 hone hroom hfit hl'
    refine ⟨_, _, H', ?_, ⟨rfl, rfl⟩, hw.put hi hp⟩
    simp [execOp, resolve, invoke, builtin, ha.ev hx, ha.ev hy, hr]
  · rintro u H1 w ⟨rfl, rfl⟩ hw; exact hS w hw
  · rintro u H1 ⟨rfl, rfl⟩; exact h
theorem zeroCells_list (z : Value) (q : Nat) : (Builtin.zeroCells z.cells q).toList = (List.replicate q (cellsL z)).flatten := by
  have hcs : z.cells.size = (cellsL z).length := by rw [cellsL_eq]; simp
  unfold Builtin.zeroCells
  simp only [Array.toList_map, Array.toList_range, hcs]
  rw [cellsL_eq]
  induction q with
  | zero => simp
  | succ q ih =>
    rw [List.replicate_succ', List.flatten_append, ← ih, Nat.succ_mul, List.range_add, List.map_append]
    congr 1
    simp only [List.map_map, List.flatten_cons, List.flatten_nil, List.append_nil]
    apply List.ext_getElem?
    intro j
    by_cases hj : j < (cellsL z).length
    · simp only [List.getElem?_map, List.getElem?_range hj, Option.map_some, Function.comp]
      rw [Nat.mul_comm, Nat.mul_add_mod, Nat.mod_eq_of_lt hj]
      simp [hj]
    · rw [List.getElem?_eq_none (by simp; omega), List.getElem?_eq_none (by omega)]
theorem run_appendZ {t t2 elem rty : TypeId} {ty' t2' te : Ty} {z : Value} {a0 : Option Addr} {kk cap mm : Nat} {q : IntKind} {cs : List Value} {A : HP} {w : World} (i : Nat)
    (ht : U.get t = some ty') (hu : ty'.und = .slice elem) (h2 : U.get t2 = some t2') (h2n : t2'.und = .int q) (he : U.get elem = some te) (hz : te.info.zero = some z) (hzs : (cellsL z).length = te.info.size) (hsz : 0 < te.info.size) (hw : Sat G w H)
    (hi : getL H i = some A) (hv : Vw A (.slice a0 kk cap) kk cs) (hl : cs.length = kk * te.info.size) (hgt : cap < kk + mm) (hm0 : 0 < mm)
    (hmax : kk + mm ≤ 9223372036854775807) (hmm : mm * te.info.bytes ≤ 140737488355328) (hbytes : (kk + mm) * te.info.bytes ≤ 140737488355328) :
    (Builtin.append_ #[t, t2] rty #[.slice a0 kk cap, .int .i64 (mm : Int)]).run P w = .ok (.slice (some ⟨w.heap.size, 0, none⟩) (kk + mm) (grownCap w (kk + mm) cap elem))
      (w.drew.alloc (cl (cs ++ (List.replicate mm (cellsL z)).flatten ++ (Builtin.zeroCells z.cells (grownCap w (kk + mm) cap elem - (kk + mm))).toList) elem)) := by
  have hzeros : ∀ {w : World}, (underlying t2).run P w = .ok t2'.und w := fun {w} => run_underlying h2 w
  have hnz : (t2'.und matches .int _) = true := by rw [h2n]
  have hgt' : ¬ kk + mm ≤ cap := by omega
  have hgs := growslice_fits (need := kk + mm) (old := cap) (bytes := te.info.bytes) (by omega) hbytes
  have hl1 := run_first (P := P) (G := G) (w := w.drew) hv (hw.draw _) hi hl
  have hnomax : ¬ ((9223372036854775807 : Int) < (kk : Int) + (mm : Int)) := by omega
  have hgs' : ¬ 281474976710656 < Builtin.nextslicecap (kk + mm) cap * te.info.bytes := by omega
  have hwr : IntKind.i64.wrap (mm : Int) = mm := wrap_in (by simp only [inK]; omega)
  have hneg : ¬ ((mm : Int) < 0) := by omega
  have hb2 : ¬ ((281474976710656 : Int) < (mm : Int) * (te.info.bytes : Int)) := by
    have : ((mm * te.info.bytes : Nat) : Int) ≤ 140737488355328 := by omega
    rw [Int.natCast_mul] at this; omega
  have hne : ¬ (mm * te.info.size = 0) := Nat.ne_of_gt (Nat.mul_pos hm0 hsz)
  have hzc := zeroCells_list z mm
  simp [Builtin.append_, run_underlying ht, hu, run_sizeOf he, hzeros, hnz, asInt, asIntOf, hwr, hneg, hb2, hgt', hnomax, hgs', Question.forced, run_typeInfo he, run_zeroValue he hz, newRow, hl1, grownCap, cl, hne, h2n]
  congr 2
  apply Array.ext'
  simp [hzc]
/-- append of so many zeros where there is no room: a new row, the old one stays. -/
theorem J_appendZ {x y : Operand} {t t2 elem : TypeId} {ty' t2' te : Ty} {z : Value} {a0 : Option Addr} {kk cap mm : Nat} {q : IntKind} {cs : List Value} {A : HP} (i : Nat) (hd : Nat.blt d n = true)
    (hx : ev L x = some (.slice a0 kk cap)) (hy : ev L y = some (.int .i64 (mm : Int))) (ht : U.get t = some ty') (hu : ty'.und = .slice elem) (h2 : U.get t2 = some t2') (h2n : t2'.und = .int q) (he : U.get elem = some te) (hz : te.info.zero = some z) (hzs : Nat.beq (cellsL z).length te.info.size = true) (hsz : Nat.blt 0 te.info.size = true)
    (hi : getL H i = some A) (hv : Vw A (.slice a0 kk cap) kk cs) (hl : cs.length = kk * te.info.size) (hgt : cap < kk + mm) (hm0 : 0 < mm)
    (hmax : kk + mm ≤ 9223372036854775807) (hmm : mm * te.info.bytes ≤ 140737488355328) (hbytes : (kk + mm) * te.info.bytes ≤ 140737488355328)
    (hS : ∀ v' w, Sat G w (slc elem te.info.size v' (kk + mm) (cs ++ (List.replicate mm (cellsL z)).flatten) :: H) → Sx rest S w)
    (h : ∀ v', J P f n R G S all rest k ((d, v') :: L) (slc elem te.info.size v' (kk + mm) (cs ++ (List.replicate mm (cellsL z)).flatten) :: H)) :
    J P f n R G S all (.cons false true ⟨some d, .call { callee := .builtin .append, args := #[x, y], argTypes := #[t, t2] }, ty, pos, af, gd⟩ rest) k L H := by
  refine J_act hd (fun u H1 => H1 = slc elem te.info.size u (kk + mm) (cs ++ (List.replicate mm (cellsL z)).flatten) :: H) (fun a w ha hw => ?_) ?_ ?_
  · have hr := run_appendZ (P := P) (rty := ty) i ht hu h2 h2n he hz (Nat.eq_of_beq_eq_true hzs) (by simpa [Nat.blt_eq] using hsz) hw hi hv hl hgt hm0 hmax hmm hbytes
    refine ⟨.slice (some ⟨w.heap.size, 0, none⟩) (kk + mm) (grownCap w (kk + mm) cap elem), w.drew.alloc (cl (cs ++ (List.replicate mm (cellsL z)).flatten ++ (Builtin.zeroCells z.cells (grownCap w (kk + mm) cap elem - (kk + mm))).toList) elem), _, ?_, rfl, ?_⟩
    · simp [execOp, resolve, invoke, builtin, ha.ev hx, ha.ev hy, hr]
    · have h5 := Sat.alloc (w := w.drew) (hw.draw _) (cl (cs ++ (List.replicate mm (cellsL z)).flatten ++ (Builtin.zeroCells z.cells (grownCap w (kk + mm) cap elem - (kk + mm))).toList) elem)
      refine h5.ent (Ent.fold (B := [_]) fun h hs => ⟨h, sub.refl h, ?_⟩)
      have hge := grownCap_ge w (kk + mm) cap elem
      have hzl : (List.replicate mm (cellsL z)).flatten.length = mm * te.info.size := by rw [flat_replicate, Nat.eq_of_beq_eq_true hzs]
      refine ⟨by simp only [List.length_append, hl, hzl, Nat.add_mul], .inr ⟨w.heap.size, 0, _, [], _, rfl, rfl, hge, ?_, by simpa using Sep_one hs⟩⟩
      have h7 : (Builtin.zeroCells z.cells (grownCap w (kk + mm) cap elem - (kk + mm))).size = (grownCap w (kk + mm) cap elem - (kk + mm)) * te.info.size := by rw [size_zeroCells, cellsL_eq]; simp [Nat.eq_of_beq_eq_true hzs]
      rw [List.length_append, hl, hzl, Array.length_toList, h7, ← Nat.add_mul, ← Nat.add_mul]
      exact Nat.le_of_eq (by congr 1; omega)
  · rintro u H1 w rfl hw; exact hS u w hw
  · rintro u H1 rfl; exact h u
theorem J_slice3 {t elem : TypeId} {ty' te : Ty} {x lo hi mx : Operand} {a0 : Option Addr} {len cap : Nat} {p q r : Int} {j1 j2 j3 : IntKind} (hd : Nat.blt d n = true)
    (ht : U.get t = some ty') (hu : ty'.und = .slice elem) (he : U.get elem = some te) (hx : ev L x = some (.slice a0 len cap)) (hlo : ev L lo = some (.int j1 p)) (hhi : ev L hi = some (.int j2 q)) (hmx : ev L mx = some (.int j3 r)) (h0 : 0 ≤ p) (hpq : p ≤ q) (hqr : q ≤ r) (hrc : r ≤ (cap : Int))
    (h : J P f n R G S all rest k ((d, .slice (sliceAt a0 r.toNat p.toNat te.info.size) (q.toNat - p.toNat) (r.toNat - p.toNat)) :: L) H) :
    J P f n R G S all (.cons m true ⟨some d, .slice t x (some lo) (some hi) (some mx), ty, pos, af, gd⟩ rest) k L H := by
  refine J_pure hd (fun a ha w => ?_) h
  have hb : (Instr.sliceBounds true len cap (some (a.eval lo)) (some (a.eval hi)) (some (a.eval mx))).run P w = .ok (p.toNat, q.toNat, r.toNat) w := by
    unfold Instr.sliceBounds
    have e1 : 0 ≤ r ∧ r ≤ (cap : Int) := ⟨by omega, hrc⟩
    have e2 : 0 ≤ q ∧ q ≤ ((r.toNat : Nat) : Int) := ⟨by omega, by omega⟩
    have e3 : 0 ≤ p ∧ p ≤ ((q.toNat : Nat) : Int) := ⟨h0, by omega⟩
    have e4 : q ≤ max r 0 := by omega
    have e5 : p ≤ max q 0 := by omega
    have e6 : 0 ≤ q := by omega
    simp [ha.ev hlo, ha.ev hhi, ha.ev hmx, Instr.sliceBound, asIntOf, e1, e2, e3, e4, e5, e6]
  simp only [execOp, ha.ev hx, Instr.sliceAt, Sem.run_bind, run_underlying ht, Result.andThen_ok, hu, Instr.slice, Option.map_some, hb, run_sizeOf he, Sem.run_pure, sliceAt]
  by_cases hc : p.toNat = r.toNat
  · simp [hc]
  · simp only [if_neg (Ne.symm hc), if_neg hc]
theorem J_overlaps {g : FuncId} {fn : Func} {args : Array Operand} {tys : Array TypeId} {tS elem : TypeId} {ty' te : Ty} {b1 o1 n1 c1 b2 o2 n2 c2 : Nat} {l1 l2 : List Value} {e1 e2 : TypeId} {Fr : List HP} {rs : Array TypeId} (is : List Nat) (hd : Nat.blt d n = true)
    (hf : P.funcs[g]? = some fn) (hb : fn.body = none) (hn : (fn.name == "runtime.NumGoroutine") = false) (hnx : (Extern.findNext fn).isNone = true) (he : Extern.find fn = some (Extern.SlicesOverlaps.overlaps #[tS, tS] rs))
    (ht : U.get tS = some ty') (hu : ty'.und = .slice elem) (hel : U.get elem = some te)
    (hargs : evs L args.toList [] = .mk [.slice (some ⟨b1, o1, none⟩) n1 c1, .slice (some ⟨b2, o2, none⟩) n2 c2]) (hi : pickE is [] H [] = .mk [pts b1 (cl l1 e1), pts b2 (cl l2 e2)] Fr)
    (h : J P f n R G S all rest k ((d, .bool false) :: L) H) :
    J P f n R G S all (.cons false true ⟨some d, .call { callee := .value (.func g), args := args, argTypes := tys }, ty, pos, af, gd⟩ rest) k L H := by
  refine J_read hd (fun a w ha hw => ?_) h
  have hw2 := hw.ent (Ent.pick is hi)
  have hne := Sat.ne hw2
  have hb1 : w.heap[b1]? = some (cl l1 e1) := hw2.getP (i := 0) rfl
  have hb2 : w.heap[b2]? = some (cl l2 e2) := hw2.getP (i := 1) rfl
  have hbn : (b1 == b2) = false := by simpa using hne
  have f1 : ∀ o, w.frozen? ⟨b1, o, none⟩ = false := fun o => frozen_of_block hb1
  have f2 : ∀ o, w.frozen? ⟨b2, o, none⟩ = false := fun o => frozen_of_block hb2
  have s1 : w.shape? b1 = some (e1, l1.length) := by simp [World.shape?, hb1, cl]
  have s2 : w.shape? b2 = some (e2, l2.length) := by simp [World.shape?, hb2, cl]
  simp only [execOp, resolve, Sem.run_bind, Act.eval, Deferred.ofValue, Sem.run_pure, Result.andThen_ok, invoke]
  rw [show (args.map fun x => a.eval x) = args.map a.eval from rfl] at *
  have hav := evs_arr ha _ _ hargs
  rw [show Array.map a.eval args = #[.slice (some ⟨b1, o1, none⟩) n1 c1, .slice (some ⟨b2, o2, none⟩) n2 c2] from hav]
  simp only [Array.empty_append, Array.append_empty]
  rw [run_extern hf hb hn hnx he]
  have hov : (Extern.SlicesOverlaps.overlaps #[tS, tS] rs #[.slice (some ⟨b1, o1, none⟩) n1 c1, .slice (some ⟨b2, o2, none⟩) n2 c2]).run P w = .ok (.bool false) w := by
    change Sem.run P (α := Value) (do
      let some t := (#[tS, tS] : Array TypeId)[0]? | stuck "slices.overlaps: no parameter types"
      let .slice elem ← underlying t | stuck "slices.overlaps: slice type expected"
      let size ← sizeOf elem
      match (some (⟨b1, o1, none⟩ : Addr) : Option Addr), (some (⟨b2, o2, none⟩ : Addr) : Option Addr) with
      | some a, some b =>
        if n1 = 0 ∨ n2 = 0 ∨ size = 0 then pure (Value.bool false)
        else if a.block != b.block && (← frozen a) && (← frozen b) then unsupported .addressObserved
        else do
          if a.block != b.block then do
            noView a; noView b
            if ← mayBeOne a b then return Value.bool ((← choose (.extern "sameAddr.stringBytes" 2)) == 1)
          pure (Value.bool (a.block == b.block && a.off < b.off + n2 * size && b.off < a.off + n1 * size))
      | _, _ => pure (Value.bool false)) w = _
    by_cases h0 : n1 = 0 ∨ n2 = 0 ∨ te.info.size = 0
    · simp [run_underlying ht, hu, run_sizeOf hel, h0]
    · simp [run_underlying ht, hu, run_sizeOf hel, h0, hbn, frozen, noView, viewAt, mayBeOne, stringish, shape, Sem.run, s1, s2, f1, f2, hne]
  rw [hov]
  rfl
theorem J_cap {x : Operand} {t : TypeId} {ty' : Ty} {e : TypeId} {a0 : Option Addr} {len cap : Nat} (hd : Nat.blt d n = true) (hx : ev L x = some (.slice a0 len cap)) (ht : U.get t = some ty') (hu : ty'.und = .slice e)
    (h : J P f n R G S all rest k ((d, .int .i64 (cap : Int)) :: L) H) : J P f n R G S all (.cons m true ⟨some d, .call { callee := .builtin .cap, args := #[x], argTypes := #[t] }, ty, pos, af, gd⟩ rest) k L H := by
  refine J_pure hd (fun a ha w => ?_) h
  simp [execOp, resolve, invoke, builtin, ha.ev hx, Builtin.cap_, run_underlying ht, hu, goInt]
end
end Go.SL

/- Engine, part O: copy of a part; parts of a view. Nothing here names a program. -/
set_option linter.unusedVariables false
set_option linter.unusedSimpArgs false
namespace Go.SL
theorem Vw.front {A : HP} {b o n cap : Nat} {cs : List Value} (h : Vw A (.slice (Option.some ⟨b, o, none⟩) n cap) n cs) (i cap' q : Nat) : Vw A (.slice (Option.some ⟨b, o, none⟩) i cap') i (cs.take q) := by
  obtain ⟨a, cap2, hv, h0 | ⟨b', o', ha, hc⟩⟩ := h
  · subst h0; exact ⟨_, cap', rfl, .inl (by simp)⟩
  · simp only [Value.slice.injEq, true_and] at hv
    obtain ⟨rfl, _⟩ := hv
    simp only [Option.some.injEq, Addr.mk.injEq, and_true] at ha
    obtain ⟨rfl, rfl⟩ := ha
    refine ⟨_, cap', rfl, .inr ⟨b, o, rfl, fun h hA j c hj => ?_⟩⟩
    rw [List.getElem?_take] at hj
    split at hj
    · exact hc h hA j c hj
    · cases hj
theorem Vw.back {A : HP} {b o n cap : Nat} {cs : List Value} (h : Vw A (.slice (Option.some ⟨b, o, none⟩) n cap) n cs) (i cap' q : Nat) : Vw A (.slice (Option.some ⟨b, o + q, none⟩) i cap') i (cs.drop q) := by
  obtain ⟨a, cap2, hv, h0 | ⟨b', o', ha, hc⟩⟩ := h
  · subst h0; exact ⟨_, cap', rfl, .inl (by simp)⟩
  · simp only [Value.slice.injEq, true_and] at hv
    obtain ⟨rfl, _⟩ := hv
    simp only [Option.some.injEq, Addr.mk.injEq, and_true] at ha
    obtain ⟨rfl, rfl⟩ := ha
    refine ⟨_, cap', rfl, .inr ⟨b, o + q, rfl, fun h hA j c hj => ?_⟩⟩
    rw [List.getElem?_drop] at hj
    rw [Nat.add_assoc]
    exact hc h hA (q + j) c hj
theorem sliceAt_some (b o cap p sz : Nat) (h : p ≠ cap) : sliceAt (some ⟨b, o, none⟩) cap p sz = some ⟨b, o + p * sz, none⟩ := by
  unfold sliceAt; rw [if_neg h, Option.map_some, Addr.add_eq]
section
variable {P : Program} {U : Tr} [hU : TabOk P U] {f : FuncId} {n : Nat} {R : Ending → World → Prop} {G : Glob} {k : List Item} {L : Lst} {H H' : List HP} {S : World → Prop} {all : Array Oper} {rest : Pl}
  {ty : TypeId} {pos : String} {af : Array Edge} {gd : Option (Nat × Bool)} {m : Bool} {d : Tmp}
theorem K_slcF {e : TypeId} {sz nn : Nat} {v : Value} {cs : List Value} (i : Nat) (hi : getL H i = some (slc e sz v nn cs)) (h0 : 0 < nn)
    (h : ∀ b o c, v = .slice (some ⟨b, o, none⟩) nn c → nn ≤ c → cs.length = nn * sz → Vw (slc e sz v nn cs) v nn cs → K P f n R G k L H) : K P f n R G k L H :=
  K_sat fun ⟨w, hw⟩ => by
    obtain ⟨h1, _, hA⟩ := hw.getA hi
    have hv := Vw.of_slc e sz v nn cs ⟨h1, hA⟩
    obtain ⟨hl, ⟨a, rfl, rfl, _⟩ | ⟨b, o, cap, pre, junk, rfl, _, hc, _⟩⟩ := hA
    · omega
    · exact h _ _ _ rfl hc hl hv
theorem slc_openN {e : TypeId} {b o c nn sz : Nat} {cs : List Value} (h0 : 0 < nn) : ∀ h, slc e sz (.slice (some ⟨b, o, none⟩) nn c) nn cs h → ∃ x : List Value × List Value, (x.1.length = o ∧ nn ≤ c ∧ c * sz ≤ cs.length + x.2.length ∧ cs.length = nn * sz) ∧ Sep [pts b (cl (x.1 ++ cs ++ x.2) e)] h := by
  rintro h ⟨hl, ⟨a, hv, rfl, he⟩ | ⟨b', o', cap, pre, junk, hv, hp, hn, hc, hpt⟩⟩
  · omega
  · simp only [Value.slice.injEq, Option.some.injEq, Addr.mk.injEq, and_true, true_and] at hv
    obtain ⟨⟨rfl, rfl⟩, rfl⟩ := hv
    exact ⟨(pre, junk), ⟨hp, hn, hc, hl⟩, Sep_one' hpt⟩
theorem sliceAt_zero (b o cap sz : Nat) : sliceAt (some ⟨b, o, none⟩) cap 0 sz = some ⟨b, o, none⟩ := by
  unfold sliceAt; split
  · rfl
  · rw [Option.map_some, Addr.add_eq]; simp
theorem ins_a {pre c1 d c3 junk : List Value} {q s r : Nat} (h : pre.length + c1.length = q) (hd : d.length = s) (hr : r = q + s + (d ++ c3).length) (hj : s ≤ junk.length) :
    (pre ++ (c1 ++ (d ++ c3)) ++ junk).take (q + s) ++ (d ++ c3) ++ (pre ++ (c1 ++ (d ++ c3)) ++ junk).drop r = pre ++ c1 ++ d ++ (d ++ c3) ++ junk.drop s := by
  have e1 : pre ++ (c1 ++ (d ++ c3)) ++ junk = (pre ++ c1 ++ d) ++ (c3 ++ junk) := by simp only [List.append_assoc]
  have e2 : pre ++ (c1 ++ (d ++ c3)) ++ junk = (pre ++ (c1 ++ (d ++ c3)) ++ junk.take s) ++ junk.drop s := by rw [List.append_assoc (pre ++ (c1 ++ (d ++ c3))) (junk.take s) (junk.drop s), List.take_append_drop]
  have h1 : (pre ++ (c1 ++ (d ++ c3)) ++ junk).take (q + s) = pre ++ c1 ++ d := by rw [e1]; exact List.take_left' (by simp only [List.length_append]; omega)
  have h2 : (pre ++ (c1 ++ (d ++ c3)) ++ junk).drop r = junk.drop s := by
    rw [e2]; exact List.drop_left' (by simp only [List.length_append, List.length_take] at hr ⊢; omega)
  rw [h1, h2]
theorem ins_b {pre c1 d rest f : List Value} {q s r : Nat} (h : pre.length + c1.length = q) (hd : d.length = s) (hr : r = q + s) :
    (pre ++ c1 ++ d ++ rest).take q ++ f ++ (pre ++ c1 ++ d ++ rest).drop r = pre ++ (c1 ++ f) ++ rest := by
  have h1 : (pre ++ c1 ++ d ++ rest).take q = pre ++ c1 := by rw [List.append_assoc]; exact List.take_left' (by simp only [List.length_append]; omega)
  have h2 : (pre ++ c1 ++ d ++ rest).drop r = rest := List.drop_left' (by simp only [List.length_append]; omega)
  rw [h1, h2]; simp only [List.append_assoc]
theorem J_copyT {x y : Operand} {t t2 elem : TypeId} {ty' te : Ty} {v2 : Value} {b o dl dc mm : Nat} {l src l' : List Value} {e : TypeId} {A : HP} (i j : Nat) (hd : Nat.blt d n = true)
    (hx : ev L x = some (.slice (some ⟨b, o, none⟩) dl dc)) (hy : ev L y = some v2) (ht : U.get t = some ty') (hu : ty'.und = .slice elem) (he : U.get elem = some te)
    (hi : getL H i = some (pts b (cl l e))) (hj : getL H j = some A) (hv2 : Vw A v2 mm src) (hl2 : src.length = mm * te.info.size) (hone : ∀ u ∈ src.take (min mm dl * te.info.size), u.oneCell' = true)
    (hfit : o + (min mm dl) * te.info.size ≤ l.length) (hl' : l' = l.take o ++ src.take (min mm dl * te.info.size) ++ l.drop (o + min mm dl * te.info.size)) (hp : putP i (pts b (cl l' e)) H [] = .mk H')
    (hS : ∀ w, Sat G w H' → Sx rest S w)
    (h : J P f n R G S all rest k ((d, .int .i64 (min mm dl : Nat)) :: L) H') :
    J P f n R G S all (.cons false true ⟨some d, .call { callee := .builtin .copy, args := #[x, y], argTypes := #[t, t2] }, ty, pos, af, gd⟩ rest) k L H := by
  refine J_act hd (fun u H1 => u = .int .i64 (min mm dl : Nat) ∧ H1 = H') (fun a w ha hw => ?_) ?_ ?_
  · have hf := run_firstN (P := P) (q := min mm dl) hv2 hw hj hl2 (Nat.min_le_left _ _)
    obtain ⟨a2, c2, hv', _⟩ := hv2
    subst hv'
    have h3 : (src.take (min mm dl * te.info.size)).length = min mm dl * te.info.size := by rw [List.length_take, hl2]; exact Nat.min_eq_left (Nat.mul_le_mul_right _ (Nat.min_le_left _ _))
    have hst := run_storeCells (P := P) (src.take (min mm dl * te.info.size)) 0 o l w (hw.getP hi) (by rw [h3]; simpa using hfit) hone
    simp only [Nat.add_zero, h3, ← hl'] at hst
    refine ⟨_, _, H', ?_, ⟨rfl, rfl⟩, hw.put hi hp⟩
    simp only [execOp, resolve, invoke, builtin, Sem.run_bind, Sem.run_pure, Result.andThen_ok, List.map_toArray, List.map_cons, List.map_nil, ha.ev hx, ha.ev hy, Builtin.copy_, List.getElem?_toArray, List.getElem?_cons_zero, List.getElem?_cons_succ,
      run_underlying ht, hu, Builtin.lenOf, run_sizeOf he]
    rw [show Nat.min mm dl = min mm dl from rfl]
    simp only [hf, Result.andThen_ok, hst, goInt]
  · rintro u H1 w ⟨rfl, rfl⟩ hw; exact hS w hw
  · rintro u H1 ⟨rfl, rfl⟩; exact h

end
end Go.SL

/- Engine, part P: one cell of a row; stores turned round and cut; a slice cut short. Nothing here names a program. -/
set_option linter.unusedVariables false
set_option linter.unusedSimpArgs false
namespace Go.SL
/-- One cell of a row, whatever the others hold. -/
def cellP (b off : Nat) (v : Value) : HP := fun h => hcell h b off = some v
theorem cellP_of {b off : Nat} {v : Value} {l : List Value} {e : TypeId} (hv : l[off]? = some v) (H : List HP) : Ent (pts b (cl l e) :: H) (cellP b off v :: H) :=
  Ent.head (B := [cellP b off v]) fun h hs => ⟨h, sub.refl h, Sep_one' (by
    have h1 := (Vw.pts (b := b) (l := l) (e := e) (o := 0) (n := l.length) (cap := l.length) (cs := l) (by simp)).cell hv h hs
    rw [Nat.zero_add] at h1; exact h1)⟩
theorem cellP_view (b off : Nat) (v : Value) : Vw (cellP b off v) (.slice (some ⟨b, off, none⟩) 1 1) 1 [v] :=
  ⟨_, _, rfl, .inr ⟨b, off, rfl, fun h hA j c hj => by
    cases j with
    | zero => simp at hj; subst hj; exact hA
    | succ j => simp at hj⟩⟩
theorem stock_perm {α : Type} (g : α → HP) {l l' : List α} (hp : l.Perm l') (H : List HP) : Ent (stock g l :: H) (stock g l' :: H) := fun h hs => ⟨h, sub.refl h, star_mono (fun h hs => Sep_perm (hp.map g) h hs) (fun _ h => h) hs⟩
theorem stock_take {α : Type} (g : α → HP) (l : List α) (m : Nat) (H : List HP) : Ent (stock g l :: H) (stock g (l.take m) :: H) := by
  refine Ent.head (B := [stock g (l.take m)]) fun h hs => ?_
  have h1 : Sep ((l.take m).map g ++ (l.drop m).map g) h := by rw [← List.map_append, List.take_append_drop]; exact hs
  obtain ⟨h', hs', hS⟩ := star_left (Sep_append h1)
  exact ⟨h', hs', Sep_one' hS⟩
theorem slc_cut {e : TypeId} {sz b o c n m : Nat} {cs : List Value} (hm : m ≤ n) (h0 : 0 < n) (H : List HP) : Ent (slc e sz (.slice (some ⟨b, o, none⟩) n c) n cs :: H) (slc e sz (.slice (some ⟨b, o, none⟩) m c) m (cs.take (m * sz)) :: H) := by
  refine Ent.head (B := [slc e sz (.slice (some ⟨b, o, none⟩) m c) m (cs.take (m * sz))]) fun h hs => ?_
  obtain ⟨⟨pre, junk⟩, ⟨h1, h2, h3, h4⟩, h5⟩ := slc_openN h0 h hs
  simp only at h1 h2 h3 h4 h5
  have hmz : m * sz ≤ n * sz := Nat.mul_le_mul_right sz hm
  have hl : (cs.take (m * sz)).length = m * sz := by rw [List.length_take, h4]; omega
  refine ⟨h, sub.refl h, Sep_one' ⟨hl, .inr ⟨b, o, c, pre, cs.drop (m * sz) ++ junk, rfl, h1, by omega, ?_, ?_⟩⟩⟩
  · rw [hl, List.length_append, List.length_drop, h4]; rw [h4] at h3; omega
  · have := Sep_one h5
    rw [show pre ++ cs.take (m * sz) ++ (cs.drop (m * sz) ++ junk) = pre ++ cs ++ junk from by rw [List.append_assoc, ← List.append_assoc (cs.take _), List.take_append_drop, List.append_assoc]]
    exact this
theorem stockV_mem {α : Type} {g : α → HP} {l : List α} {x : α} (hx : x ∈ l) {h : Hp} (hs : stock g l h) : ∃ h', sub h' h ∧ g x h' := stock_mem hx hs
theorem K_slcLe {P : Program} {f : FuncId} {n : Nat} {R : Ending → World → Prop} {G : Glob} {k : List Item} {L : Lst} {H : List HP} {e : TypeId} {sz nn c : Nat} {a : Option Addr} {cs : List Value} (i : Nat) (hi : getL H i = some (slc e sz (.slice a nn c) nn cs))
    (h : nn ≤ c → cs.length = nn * sz → Vw (slc e sz (.slice a nn c) nn cs) (.slice a nn c) nn cs → K P f n R G k L H) : K P f n R G k L H :=
  K_sat fun ⟨w, hw⟩ => by
    obtain ⟨h1, _, hA⟩ := hw.getA hi
    have hv := Vw.of_slc e sz _ nn cs ⟨h1, hA⟩
    obtain ⟨hl, ⟨a, hv1, rfl, _⟩ | ⟨b, o, cap, pre, junk, hv1, _, hc, _⟩⟩ := hA
    · simp only [Value.slice.injEq] at hv1; exact h (by omega) hl hv
    · simp only [Value.slice.injEq] at hv1; exact h (by omega) hl hv
theorem Vw.cut0 {A : HP} {a : Option Addr} {n cap s : Nat} {cs : List Value} (h : Vw A (.slice a n cap) n cs) (k : Nat) : Vw A (.slice (sliceAt a cap 0 s) k cap) k (cs.take (k * s)) := by
  have h' := h
  obtain ⟨a', cap2, hv, h0 | ⟨b', o', ha, hc⟩⟩ := h
  · subst h0; exact ⟨_, cap, rfl, .inl (by simp)⟩
  · simp only [Value.slice.injEq, true_and] at hv
    obtain ⟨rfl, _⟩ := hv
    subst ha
    rw [sliceAt_zero]
    exact h'.front k cap (k * s)
theorem Vw.cutk {A : HP} {a : Option Addr} {n cap s : Nat} {cs : List Value} (h : Vw A (.slice a n cap) n cs) (hl : cs.length = n * s) (hn : n ≤ cap) (k : Nat) (hk : k ≤ n) : Vw A (.slice (sliceAt a cap k s) (n - k) (cap - k)) (n - k) (cs.drop (k * s)) := by
  have h' := h
  obtain ⟨a', cap2, hv, h0 | ⟨b', o', ha, hc⟩⟩ := h
  · subst h0; exact ⟨_, _, rfl, .inl (by simp)⟩
  · simp only [Value.slice.injEq, true_and] at hv
    obtain ⟨rfl, _⟩ := hv
    subst ha
    by_cases hkc : k = cap
    · have : cs.drop (k * s) = [] := List.eq_nil_of_length_eq_zero (by rw [List.length_drop, hl, hkc, show n = cap from by omega]; omega)
      rw [this]; exact ⟨_, _, rfl, .inl rfl⟩
    · rw [sliceAt_some _ _ _ _ _ hkc]
      exact h'.back (n - k) (cap - k) (k * s)
theorem stock_split {α : Type} (g : α → HP) (l : List α) (m : Nat) (H : List HP) : Ent (stock g l :: H) (stock g (l.take m) :: stock g (l.drop m) :: H) := fun h hs => by
  refine ⟨h, sub.refl h, star_assoc' (star_mono (fun h hs => ?_) (fun _ h => h) hs)⟩
  have h1 : Sep ((l.take m).map g ++ (l.drop m).map g) h := by rw [← List.map_append, List.take_append_drop]; exact hs
  exact Sep_append h1
theorem take_first {α : Type} {P : α → Bool} (l : List α) (i : Nat) (h1 : ∀ y ∈ l.take i, P y = true) (h2 : l.length ≤ i ∨ ∃ x, l[i]? = Option.some x ∧ P x = false) : l.take i = l.takeWhile P ∧ l.drop i = l.dropWhile P := by
  induction l generalizing i with
  | nil => simp
  | cons y l ih =>
    cases i with
    | zero =>
      rcases h2 with h2 | ⟨x, hx, hp⟩
      · simp at h2
      · simp at hx; subst hx; simp [List.takeWhile_cons, List.dropWhile_cons, hp]
    | succ i =>
      have hy : P y = true := h1 y (by simp)
      have := ih i (fun z hz => h1 z (by simp [hz])) (by simpa using h2)
      simp [List.takeWhile_cons, List.dropWhile_cons, hy, this.1, this.2]
theorem takeWhile_all {α : Type} {P : α → Bool} : ∀ (l : List α), ∀ x ∈ l.takeWhile P, P x = true := by
  intro l
  induction l with
  | nil => intro x hx; simp at hx
  | cons y l ih =>
    intro x hx
    rw [List.takeWhile_cons] at hx
    split at hx
    · rename_i h
      rcases List.mem_cons.1 hx with rfl | hx
      · exact h
      · exact ih x hx
    · cases hx
end Go.SL

/- Engine, part Q: a store into a field of an element of a slice. Nothing here names a program. -/
set_option linter.unusedVariables false
set_option linter.unusedSimpArgs false
namespace Go.SL
section
variable {P : Program} {U : Tr} [hU : TabOk P U] {f : FuncId} {n : Nat} {R : Ending → World → Prop} {G : Glob} {k : List Item} {L : Lst} {H H' : List HP} {S : World → Prop} {all : Array Oper} {rest : Pl}
  {ty : TypeId} {pos : String} {af : Array Edge} {gd : Option (Nat × Bool)} {m : Bool} {d : Tmp}
theorem J_storeSlcN {t : TypeId} {x y : Operand} {b o q off c nn sz : Nat} {ty' : Ty} {u : Value} {e : TypeId} {cs : List Value} (i : Nat) (hS : ∀ w, Sat G w H' → Sx rest S w)
    (hx : ev L x = some (.pointer (some ⟨b, off, none⟩))) (hoff : off = o + q) (hy : ev L y = some u) (ht : U.get t = some ty') (hsz : Nat.beq ty'.info.size 1 = true) (hc : cellsL u = [u]) (hone : allOne [u] = true)
    (hi : getL H i = some (slc e sz (.slice (some ⟨b, o, none⟩) nn c) nn cs)) (h0 : 0 < nn) (hq : q < nn * sz) (hp : putP i (slc e sz (.slice (some ⟨b, o, none⟩) nn c) nn (cs.set q u)) H [] = .mk H')
    (h : J P f n R G S all rest k L H') : J P f n R G S all (.cons false true ⟨none, .store t x y, ty, pos, af, gd⟩ rest) k L H := by
  subst hoff
  refine J_ent (Ent.perm (perm_of_get (by rw [← getL_eq]; exact hi))) ?_
  refine J_open (B := fun x : List Value × List Value => [pts b (cl (x.1 ++ cs ++ x.2) e)]) (fun h hs => slc_openN h0 h hs) ?_
  rintro ⟨pre, junk⟩ ⟨h1, h2, h3, h4⟩
  simp only at h1 h2 h3 h4
  have hset : (pre ++ cs ++ junk).set (o + q) u = pre ++ cs.set q u ++ junk := by
    rw [List.append_assoc, List.set_append_right _ _ (by omega), show o + q - pre.length = q by omega, List.set_append_left _ _ (by omega), List.append_assoc]
  have hE : Ent (pts b (cl (pre ++ cs.set q u ++ junk) e) :: H.eraseIdx i) H' := by
    have h5 := putP_eq i _ _ H [] H' hp hi
    exact (slc_closeN h1 h2 (by rw [List.length_set]; exact h3) (by rw [List.length_set]; exact h4) _).trans (Ent.perm (by simpa using h5.symm))
  refine J_store (U := U) (l' := pre ++ cs.set q u ++ junk) 0 (fun w hw => hS w (hw.ent hE)) hx hy ht (by rw [hc, Nat.eq_of_beq_eq_true hsz]; rfl) (by rw [hc]; rfl) (by rw [hc]; exact hone) rfl ?_ rfl (J_ent hE h)
  rw [hc, repl_go _ _ _ _ (by simp; omega), ← hset]
  rfl
end
end Go.SL

/- Engine, part R: string(b) where b stands through a region. Nothing here names a program. -/
set_option linter.unusedVariables false
set_option linter.unusedSimpArgs false
namespace Go.SL
section
variable {P : Program} {U : Tr} [hU : TabOk P U] {f : FuncId} {n : Nat} {R : Ending → World → Prop} {G : Glob} {k : List Item} {L : Lst} {H H' : List HP} {S : World → Prop} {all : Array Oper} {rest : Pl}
  {ty : TypeId} {pos : String} {af : Array Edge} {gd : Option (Nat × Bool)} {m : Bool} {d : Tmp}
theorem J_toStrS {Hs : List HP} {src dst e : TypeId} {ts td te : Ty} {x : Operand} {v : Value} {A : HP} {bs : List UInt8} (i : Nat) (hd : Nat.blt d n = true)
    (hx : ev L x = some v) (hs : U.get src = some ts) (hsu : ts.und = .slice e) (he : U.get e = some te) (heu : te.und = .int .u8) (hdt : U.get dst = some td) (hdu : td.und = .string) (hi : getL Hs i = some A) (hv : Vw A v bs.length (bV bs))
    (h : J P f n R G (fun w => Sat G w Hs) all rest k ((d, .string (strOf bs)) :: L) H) : J P f n R G (fun w => Sat G w Hs) all (.cons true true ⟨some d, .convert src dst x, ty, pos, af, gd⟩ rest) k L H := by
  refine J_readS hd (fun a w ha hw => ?_) h
  have hw : Sat G w Hs := hw
  obtain ⟨a0, cap, rfl, h0 | ⟨b, o, rfl, hc⟩⟩ := hv.cells hw hi
  · have hb : bs = [] := by simpa [bV] using h0
    subst hb
    cases a0 with
    | none =>
      simp only [execOp, ha.ev hx, Sem.run_bind]
      rw [run_convert_bytes_string w src dst e _ _ _ (by rw [und_of (P := P) hs, hsu]) (by rw [und_of (P := P) he, heu]) (by rw [und_of (P := P) hdt, hdu])]
      simp [Conv.bytesToString, strOf]
      rfl
    | some a1 =>
      simp only [execOp, ha.ev hx, Sem.run_bind]
      rw [run_convert_bytes_string w src dst e _ _ _ (by rw [und_of (P := P) hs, hsu]) (by rw [und_of (P := P) he, heu]) (by rw [und_of (P := P) hdt, hdu])]
      rw [run_bytesToString w a1 _ _ [] (by simp [loadCells, loadCellsFrom])]
      simp [strOf]
      rfl
  · have h1 := run_loadCells_list (P := P) w ⟨b, o, none⟩ (bV bs) (fun j c hj => by rw [Addr.add_eq]; exact hc j c hj)
    rw [bV_length] at h1
    simp only [execOp, ha.ev hx, Sem.run_bind]
    rw [run_convert_bytes_string w src dst e _ _ _ (by rw [und_of (P := P) hs, hsu]) (by rw [und_of (P := P) he, heu]) (by rw [und_of (P := P) hdt, hdu])]
    rw [run_bytesToString w _ _ _ (bs.map fun x => (x.toNat : Int)) (by rw [h1]; simp [bV, u8]), foldl_push]
    simp [strOf]
end
end Go.SL

