/- Engine, part C: operations that only reckon. 'pureOp' reckons the value of an operation out of what is known of the slots; 'advJ' takes as many such operations as stand in a row. Nothing here names a program. -/
import Derived.Test.YtokknepnmfklnaaEngB
import Derived.Laws.Strings
namespace Go.SL

/-! ## a table of types, as a tree that reduction goes through -/
structure Ty where
  und : TypeDesc
  info : TypeInfo
inductive Tr where
  | leaf
  | node (k : Nat) (v : Ty) (l r : Tr)
def Tr.get : Tr → Nat → Option Ty
  | .leaf, _ => none
  | .node k v l r, t => bif Nat.beq t k then some v else bif Nat.blt t k then l.get t else r.get t
def Tr.Good (P : Program) : Tr → Prop
  | .leaf => True
  | .node k v l r => (P.underlying k = some v.und ∧ P.info? k = some v.info) ∧ l.Good P ∧ r.Good P
class TabOk (P : Program) (U : outParam Tr) : Prop where
  good : U.Good P
theorem Tr.good_get {P : Program} {U : Tr} (h : U.Good P) (t : Nat) (ty : Ty) (hg : U.get t = some ty) : P.underlying t = some ty.und ∧ P.info? t = some ty.info := by
  induction U with
  | leaf => simp [Tr.get] at hg
  | node k v l r ihl ihr =>
    simp only [Tr.get] at hg
    cases hb : Nat.beq t k with
    | true =>
      have := Nat.eq_of_beq_eq_true hb
      subst this
      simp only [hb, cond_true] at hg
      cases hg
      exact h.1
    | false =>
      simp only [hb, cond_false] at hg
      cases hl : Nat.blt t k with
      | true => simp only [hl, cond_true] at hg; exact ihl h.2.1 hg
      | false => simp only [hl, cond_false] at hg; exact ihr h.2.2 hg

section
variable {P : Program} {U : Tr} [hU : TabOk P U]
theorem und_of {t : Nat} {ty : Ty} (h : U.get t = some ty) : P.underlying t = some ty.und := (Tr.good_get hU.good t ty h).1
theorem info_of {t : Nat} {ty : Ty} (h : U.get t = some ty) : P.info? t = some ty.info := (Tr.good_get hU.good t ty h).2
theorem run_underlying {t : Nat} {ty : Ty} (h : U.get t = some ty) (w : World) : (underlying t).run P w = .ok ty.und w := by
  simp [underlying, und_of (P := P) h]
theorem run_typeInfo {t : Nat} {ty : Ty} (h : U.get t = some ty) (w : World) : (typeInfo t).run P w = .ok ty.info w := by
  simp [typeInfo, info_of (P := P) h]
theorem run_sizeOf {t : Nat} {ty : Ty} (h : U.get t = some ty) (w : World) : (sizeOf t).run P w = .ok ty.info.size w := by
  simp [sizeOf, run_typeInfo h]
def Ty.isAgg (ty : Ty) : Bool := match ty.und with
  | .struct _ => true
  | .array _ _ => true
  | _ => false
theorem run_isAgg {t : Nat} {ty : Ty} (h : U.get t = some ty) (w : World) : (isAgg t).run P w = .ok ty.isAgg w := by
  simp only [isAgg, Sem.run_bind, run_underlying h, Result.andThen_ok, Ty.isAgg]
  cases ty.und <;> rfl
theorem run_zeroValue {t : Nat} {ty : Ty} {z : Value} (h : U.get t = some ty) (hz : ty.info.zero = some z) (w : World) : (zeroValue t).run P w = .ok z w := by
  simp [zeroValue, run_typeInfo h, hz]
end

def getL {α : Type} : List α → Nat → Option α
  | [], _ => none
  | x :: _, 0 => some x
  | _ :: l, i + 1 => getL l i
theorem getL_eq {α : Type} (l : List α) (i : Nat) : getL l i = l[i]? := by
  induction l generalizing i with
  | nil => simp [getL]
  | cons x l ih => cases i <;> simp [getL, ih]

def kno : IntKind → Nat
  | .i8 => 0 | .i16 => 1 | .i32 => 2 | .i64 => 3 | .u8 => 4 | .u16 => 5 | .u32 => 6 | .u64 => 7
theorem kno_inj {j k : IntKind} (h : Nat.beq (kno j) (kno k) = true) : j = k := by
  cases j <;> cases k <;> first | rfl | (revert h; decide)

def eqS (a b : ByteArray) : Bool := a.data.toList == b.data.toList
def ltS (a b : ByteArray) : Bool := Op.bytesLess a.data.toList b.data.toList

def cmpI : BinOp → Int → Int → Option Bool
  | .eql, a, b => some (decide (a = b))
  | .neq, a, b => some (decide (a ≠ b))
  | .lss, a, b => some (decide (a < b))
  | .leq, a, b => some (decide (a ≤ b))
  | .gtr, a, b => some (decide (b < a))
  | .geq, a, b => some (decide (b ≤ a))
  | _, _, _ => none
def cmpS : BinOp → ByteArray → ByteArray → Option Bool
  | .eql, a, b => some (eqS a b)
  | .neq, a, b => some (!(eqS a b))
  | .lss, a, b => some (ltS a b)
  | .leq, a, b => some (ltS a b || eqS a b)
  | .gtr, a, b => some (!(ltS a b || eqS a b))
  | .geq, a, b => some (!(ltS a b))
  | _, _, _ => none
def bitsI : BinOp → IntKind → Int → Int → Option Int
  | .and, k, a, b => some (k.wrap ((BitVec.ofInt k.bits a &&& BitVec.ofInt k.bits b).toNat : Int))
  | .or, k, a, b => some (k.wrap ((BitVec.ofInt k.bits a ||| BitVec.ofInt k.bits b).toNat : Int))
  | .xor, k, a, b => some (k.wrap ((BitVec.ofInt k.bits a ^^^ BitVec.ofInt k.bits b).toNat : Int))
  | .andNot, k, a, b => some (k.wrap ((BitVec.ofInt k.bits a &&& ~~~ BitVec.ofInt k.bits b).toNat : Int))
  | _, _, _, _ => none
/-- '==' and '!=' of values against nil, and of bools. -/
def eqNil : TypeDesc → Value → Value → Option Bool
  | .pointer _, .pointer none, .pointer none => some true
  | .pointer _, .pointer none, .pointer (some _) => some false
  | .pointer _, .pointer (some _), .pointer none => some false
  | .slice _, .slice none _ _, .slice none _ _ => some true
  | .slice _, .slice (some _) _ _, .slice none _ _ => some false
  | .slice _, .slice none _ _, .slice (some _) _ _ => some false
  | .map _ _, .map none, .map none => some true
  | .map _ _, .map (some _), .map none => some false
  | .map _ _, .map none, .map (some _) => some false
  | .func _ _ _, .nilFunc, .nilFunc => some true
  | .func _ _ _, .func _ _ _, .nilFunc => some false
  | .func _ _ _, .nilFunc, .func _ _ _ => some false
  | .bool, .bool a, .bool b => some (a == b)
  | _, _, _ => none
def eqV (U : Tr) (op : BinOp) (t : TypeId) (x y : Value) : Option Bool :=
  match op with
  | .eql => match U.get t with
    | some ty => eqNil ty.und x y
    | none => none
  | .neq => match U.get t with
    | some ty => match eqNil ty.und x y with
      | some b => some (!b)
      | none => none
    | none => none
  | _ => none

def cellsL : Value → List Value
  | .agg cs => cs.toList
  | v => [v]
theorem cellsL_eq (v : Value) : v.cells = (cellsL v).toArray := by cases v <;> simp [Value.cells, cellsL]

/-- z with vs in the place of what stands from off on. -/
def repl : List Value → Nat → List Value → List Value → OutV
  | acc, _, z, [] => finV acc z
  | acc, 0, _ :: z, v :: vs => repl (v :: acc) 0 z vs
  | acc, i + 1, x :: z, v :: vs => repl (x :: acc) i z (v :: vs)
  | _, _, [], _ :: _ => .no
theorem repl_eq (vs : List Value) : ∀ (acc : List Value) (i : Nat) (z r : List Value), repl acc i z vs = .mk r → i + vs.length ≤ z.length + (if vs = [] then i else 0) ∧ (vs ≠ [] → r = acc.reverse ++ (z.take i ++ vs ++ z.drop (i + vs.length))) ∧ (vs = [] → r = acc.reverse ++ z) := by
  have gen : ∀ (z vs acc : List Value) (i : Nat) (r : List Value), repl acc i z vs = .mk r → i + vs.length ≤ z.length + (if vs = [] then i else 0) ∧ (vs ≠ [] → r = acc.reverse ++ (z.take i ++ vs ++ z.drop (i + vs.length))) ∧ (vs = [] → r = acc.reverse ++ z) := by
    intro z
    induction z with
    | nil =>
      intro vs acc i r h
      cases vs with
      | nil => cases i <;> (simp only [repl] at h; have := finV_eq _ _ _ h; simp [this])
      | cons v vs => cases i <;> simp [repl] at h
    | cons x z ih =>
      intro vs acc i r h
      cases vs with
      | nil => cases i <;> (simp only [repl] at h; have := finV_eq _ _ _ h; simp [this])
      | cons v vs =>
        cases i with
        | zero =>
          simp only [repl] at h
          obtain ⟨h1, h2, h3⟩ := ih vs (v :: acc) 0 r h
          by_cases hv : vs = []
          · subst hv; have := h3 rfl; simp [this]
          · have := h2 hv; simp [hv] at h1; simp [this]; omega
        | succ i =>
          simp only [repl] at h
          obtain ⟨h1, h2, h3⟩ := ih (v :: vs) (x :: acc) i r h
          have := h2 (by simp)
          simp at h1
          refine ⟨by simp; omega, fun _ => ?_, fun h => by cases h⟩
          rw [this]; simp [show i + 1 + (vs.length + 1) = (i + (vs.length + 1)) + 1 by omega]
  exact fun acc i z r h => gen z vs acc i r h

/-- A struct's cells, put together part by part. -/
def buildL (U : Tr) (L : Lst) (fs : List Field) : List Value → List (Nat × Operand) → Option Value
  | z, [] => some (.agg z.toArray)
  | z, (i, x) :: ps => match getL fs i, ev L x with
    | some fd, some v => match U.get fd.type with
      | some ft => bif Nat.beq (cellsL v).length 0 then none else bif Nat.beq (cellsL v).length ft.info.size then
          (match repl [] fd.offset z (cellsL v) with
          | .mk z' => buildL U L fs z' ps
          | .no => none) else none
      | none => none
    | _, _ => none

def allIn (U : Tr) : List Field → Bool
  | [] => true
  | f :: fs => match U.get f.type with
    | some _ => allIn U fs
    | none => false

def pureOp (U : Tr) (op : Op) (L : Lst) : Option Value :=
  match op with
  | .move x => ev L x
  | .assign x => ev L x
  | .nilCheck x => match ev L x with
    | some (.pointer (some a)) => some (.pointer (some a))
    | some (.func (.func f) fi cap) => some (.func (.func f) fi cap)
    | _ => none
  | .fieldAddr s x f => match U.get s, ev L x with
    | some ty, some (.pointer (some ⟨b, o, none⟩)) => match ty.und with
      | .struct fs => match getL fs.toList f with
        | some fd => match U.get fd.type with
          | some ft => bif Nat.beq ft.info.size 0 then none else some (.pointer (some ⟨b, o + fd.offset, none⟩))
          | none => none
        | none => none
      | _ => none
    | _, _ => none
  | .field s x f => match U.get s, ev L x with
    | some ty, some (.agg cs) => match ty.und with
      | .struct fs => match getL fs.toList f with
        | some fd => match U.get fd.type with
          | some ft => bif ft.isAgg then some (.agg (cs.extract fd.offset (fd.offset + ft.info.size))) else getL cs.toList fd.offset
          | none => none
        | none => none
      | _ => none
    | _, _ => none
  | .extract x i => match ev L x with
    | some (.tuple vs) => getL vs.toList i
    | _ => none
  | .binOp op t x y _ => match ev L x, ev L y with
    | some (.int j a), some (.int k b) => bif Nat.beq (kno j) (kno k) then
        (match cmpI op a b with
        | some c => some (.bool c)
        | none => match bitsI op j a b with
          | some c => some (.int j c)
          | none => none) else none
    | some (.string a), some (.string b) => match cmpS op a b with
      | some c => some (.bool c)
      | none => none
    | some u, some v => match eqV U op t u v with
      | some c => some (.bool c)
      | none => none
    | _, _ => none
  | .unOp op _ x => match op, ev L x with
    | .not, some (.bool b) => some (.bool (!b))
    | _, _ => none
  | .makeFunc fn first captured => match evs L first.toList [], evs L captured.toList [] with
    | .mk fs, .mk cs => some (.func fn fs.toArray cs.toArray)
    | _, _ => none
  | .build t parts => match U.get t with
    | some ty => match ty.und, ty.info.zero with
      | .struct fs, some (.agg z) => bif allIn U fs.toList then buildL U L fs.toList z.toList parts.toList else none
      | _, _ => none
    | none => none
  | .convert src dst x => match U.get src, U.get dst, ev L x with
    | some s, some d, some (.string v) => match s.und, d.und with
      | .string, .string => some (.string v)
      | _, _ => none
    | _, _, _ => none
  | .call c => match c.callee with
    | .builtin .len => match c.argTypes.toList, c.args.toList with
      | [t], [x] => match U.get t, ev L x with
        | some ty, some (.slice _ n _) => match ty.und with
          | .slice _ => some (.int .i64 n)
          | _ => none
        | some ty, some (.string s) => match ty.und with
          | .string => some (.int .i64 s.size)
          | _ => none
        | _, _ => none
      | _, _ => none
    | .builtin .max => match c.args.toList with
      | [x, y] => match ev L x, ev L y with
        | some (.int k a), some (.int _ b) => some (.int k (max a b))
        | _, _ => none
      | _ => none
    | .builtin .min => match c.args.toList with
      | [x, y] => match ev L x, ev L y with
        | some (.int k a), some (.int _ b) => some (.int k (min a b))
        | _, _ => none
      | _ => none
    | _ => none
  | _ => none

section
variable {P : Program} {U : Tr} [hU : TabOk P U] {n : Nat} {L : Lst} {a : Act}

theorem run_equalNil {d : Nat} {t : TypeId} {ty : Ty} {x y : Value} {b : Bool} (h : U.get t = some ty) (he : eqNil ty.und x y = some b) (w : World) :
    (Op.equalIn (d + 1) t x y).run P w = .ok b w := by
  unfold Op.equalIn
  simp only [Sem.run_bind, run_underlying h, Result.andThen_ok]
  unfold eqNil at he
  split at he <;> first | (cases he; done) | skip
  all_goals (cases he; rename_i hu _ _; first | rw [hu] | skip)
  all_goals simp_all


theorem eqS_iff {a b : ByteArray} : eqS a b = true ↔ a = b := by
  unfold eqS
  constructor
  · intro h
    have h1 : a.data.toList = b.data.toList := by simpa using h
    cases a; cases b; simp at h1; rw [h1]
  · rintro rfl; simp
theorem eqS_false {a b : ByteArray} : eqS a b = false ↔ a ≠ b := by
  rw [← Bool.not_eq_true, eqS_iff]

theorem beqI (p q : Int) : (p == q) = decide (p = q) := by rw [Bool.eq_iff_iff]; simp

theorem pureOp_binOp {op : BinOp} {t yt : TypeId} {x y : Operand} {v : Value} {d : Option Tmp} {ty : TypeId} {pos : String} {af : Array Edge} {gd : Option (Nat × Bool)}
    (h : pureOp U (.binOp op t x y yt) L = some v) (ha : Has n L a) (w : World) : (execOp a.eval ⟨d, .binOp op t x y yt, ty, pos, af, gd⟩).run P w = .ok (.value v) w := by
  simp only [pureOp] at h
  split at h
  · rename_i j p k q hx hy
    have ex := ha.ev hx
    have ey := ha.ev hy
    have hg : (eqGuard op t x y (.int j p) (.int k q)).run P w = .ok () w := by
      unfold eqGuard; split <;> simp
    cases hk : Nat.beq (kno j) (kno k) with
    | false => simp [hk] at h
    | true =>
      have := kno_inj hk
      subst this
      simp only [hk, cond_true] at h
      simp only [execOp, Sem.run_bind, ex, ey, hg, Result.andThen_ok]
      cases op <;> simp only [cmpI, bitsI] at h <;> cases h <;>
        simp [binOp, Op.intCmp, Op.intBits, bne, beqI]
  · rename_i s1 s2 hx hy
    have ex := ha.ev hx
    have ey := ha.ev hy
    have hg : (eqGuard op t x y (.string s1) (.string s2)).run P w = .ok () w := by
      unfold eqGuard; split <;> simp
    simp only [execOp, Sem.run_bind, ex, ey, hg, Result.andThen_ok]
    cases op <;> simp only [cmpS] at h <;> cases h <;>
      simp [binOp, Op.stringOp, eqS, ltS, ByteArray.toList_eq]
  · rename_i u v' hni hns hx hy
    have ex := ha.ev hx
    have ey := ha.ev hy
    split at h
    · rename_i c hc
      cases h
      simp only [execOp, Sem.run_bind, ex, ey]
      unfold eqV at hc
      split at hc
      · split at hc
        · rename_i ty' ht
          have hr := run_equalNil (P := P) (d := 9999) ht hc w
          unfold eqNil at hc
          split at hc <;> first | (cases hc; done) | (simp [eqGuard, binOp, Op.equal, Op.maxDepth, hr]; done)
        · cases hc
      · split at hc
        · rename_i ty' ht
          split at hc
          · rename_i b hb
            have hr := run_equalNil (P := P) (d := 9999) ht hb w
            cases hc
            unfold eqNil at hb
            split at hb <;> first | (cases hb; done) | (simp [eqGuard, binOp, Op.equal, Op.maxDepth, hr]; done)
          · cases hc
        · cases hc
      · cases hc
    · cases h
  · cases h

theorem foldl_put (vc : List Value) : ∀ (i off : Nat) (cs : Array Value), off + i + vc.length ≤ cs.size →
    ((vc.toArray.zipIdx i).foldl (fun cs (x : Value × Nat) => cs.setIfInBounds (off + x.2) x.1) cs).toList = cs.toList.take (off + i) ++ vc ++ cs.toList.drop (off + i + vc.length) := by
  induction vc with
  | nil =>
    intro i off cs _
    have : (([] : List Value).toArray.zipIdx i) = #[] := by apply Array.ext'; simp
    rw [this]; simp
  | cons v vc ih =>
    intro i off cs h
    have h1 : ((v :: vc).toArray.zipIdx i) = #[(v, i)] ++ vc.toArray.zipIdx (i + 1) := by
      apply Array.ext'; simp
    simp only [List.length_cons] at h
    rw [h1, Array.foldl_append]
    simp only [List.foldl_toArray, List.foldl_cons, List.foldl_nil]
    rw [ih (i + 1) off _ (by simp; omega)]
    have h2 : (cs.setIfInBounds (off + i) v).toList = cs.toList.set (off + i) v := by simp
    rw [h2]
    have hlt : off + i < cs.toList.length := by simp; omega
    rw [List.set_eq_take_append_cons_drop, if_pos hlt]
    rw [show off + (i + 1) = off + i + 1 by omega]
    have e1 : (List.take (off + i) cs.toList ++ v :: List.drop (off + i + 1) cs.toList).take (off + i + 1) = List.take (off + i) cs.toList ++ [v] := by
      rw [List.take_append]
      simp only [List.length_take]
      rw [show min (off + i) cs.toList.length = off + i by omega]
      simp [List.take_take, show off + i + 1 - (off + i) = 1 by omega]
    have e2 : (List.take (off + i) cs.toList ++ v :: List.drop (off + i + 1) cs.toList).drop (off + i + 1 + vc.length) = List.drop (off + i + (v :: vc).length) cs.toList := by
      rw [List.drop_append]
      simp only [List.length_take, List.length_cons]
      rw [show min (off + i) cs.toList.length = off + i by omega]
      rw [List.drop_of_length_le (by simp; omega)]
      rw [show off + i + 1 + vc.length - (off + i) = vc.length + 1 by omega]
      simp [show off + i + 1 + vc.length = off + i + (vc.length + 1) by omega]
    rw [e1, e2]
    simp

def sizeIn (U : Tr) (t : TypeId) : Nat := match U.get t with
  | some ft => ft.info.size
  | none => 0
theorem run_places (fs : List Field) (h : allIn U fs = true) (w : World) :
    (fs.mapM (m := Sem) fun f => do pure (f.offset, ← sizeOf f.type)).run P w = .ok (fs.map fun f => (f.offset, sizeIn U f.type)) w := by
  induction fs with
  | nil => rfl
  | cons f fs ih =>
    simp only [allIn] at h
    split at h
    · rename_i ft hft
      simp only [List.mapM_cons, Sem.run_bind, run_sizeOf hft, Result.andThen_ok, Sem.run_pure, ih h, List.map_cons, sizeIn, hft]
    · cases h

theorem buildL_fill (ha : Has n L a) (fs : List Field) (ps : List (Nat × Operand)) : ∀ (z : List Value) (v : Value), buildL U L fs z ps = some v →
    ∃ r, v = .agg r ∧ Instr.fill (fun i => ((fs.map fun f => (f.offset, sizeIn U f.type)).toArray)[i]?) z.toArray (ps.map fun x => (x.1, a.eval x.2)) = some r := by
  induction ps with
  | nil => intro z v h; simp only [buildL] at h; cases h; exact ⟨_, rfl, rfl⟩
  | cons p ps ih =>
    obtain ⟨i, x⟩ := p
    intro z v h
    simp only [buildL] at h
    split at h
    · rename_i fd u hfd hu
      split at h
      · rename_i ft hft
        cases hb0 : Nat.beq (cellsL u).length 0 with
        | true => simp [hb0] at h
        | false =>
        simp only [hb0, cond_false] at h
        cases hb : Nat.beq (cellsL u).length ft.info.size with
        | false => simp [hb] at h
        | true =>
          simp only [hb, cond_true] at h
          split at h
          · rename_i z' hz'
            obtain ⟨r, hv, hr⟩ := ih z' v h
            refine ⟨r, hv, ?_⟩
            rw [getL_eq] at hfd
            simp only [List.map_cons, Instr.fill, ha.ev hu]
            have hplace : ((fs.map fun f => (f.offset, sizeIn U f.type)).toArray)[i]? = some (fd.offset, ft.info.size) := by
              simp [hfd, sizeIn, hft]
            simp only [hplace]
            have hlen : (cellsL u).length = ft.info.size := Nat.eq_of_beq_eq_true hb
            obtain ⟨h1, h2, _⟩ := repl_eq _ _ _ _ _ hz'
            have hsz : u.cells.size = ft.info.size := by rw [cellsL_eq]; simpa using hlen
            by_cases he : cellsL u = []
            · rw [he] at hb0; cases hb0
            · have h4 := h2 he
              simp only [he, if_false, Nat.add_zero] at h1
              rw [if_neg (by simp [hsz]; rw [← hlen]; exact h1)]
              have := foldl_put (cellsL u) 0 fd.offset z.toArray (by simpa using h1)
              simp only [Nat.add_zero] at this
              have e : ((cellsL u).toArray.zipIdx.foldl (fun cs (x : Value × Nat) => cs.setIfInBounds (fd.offset + x.2) x.1) z.toArray) = z'.toArray := by
                apply Array.ext'
                rw [this, h4]; simp
              rw [cellsL_eq]
              rw [show ((cellsL u).toArray.zipIdx.foldl (fun cs (x : Value × Nat) => match x with | (c, j) => cs.setIfInBounds (fd.offset + j) c) z.toArray) = z'.toArray from e]
              exact hr
          · cases h
      · cases h
    · cases h

theorem pureOp_sound {op : Op} {v : Value} {d : Option Tmp} {ty : TypeId} {pos : String} {af : Array Edge} {gd : Option (Nat × Bool)}
    (h : pureOp U op L = some v) (ha : Has n L a) (w : World) : (execOp a.eval ⟨d, op, ty, pos, af, gd⟩).run P w = .ok (.value v) w := by
  cases op with
  | binOp op t x y yt => exact pureOp_binOp h ha w
  | move x => simp only [pureOp] at h; simp [execOp, ha.ev h]
  | assign x => simp only [pureOp] at h; simp [execOp, ha.ev h]
  | nilCheck x =>
    simp only [pureOp] at h
    split at h
    · rename_i hx; cases h; simp [execOp, ha.ev hx]
    · rename_i hx; cases h; simp [execOp, ha.ev hx]
    · cases h
  | fieldAddr s x f =>
    simp only [pureOp] at h
    split at h
    · rename_i ty' b o hs hx
      split at h
      · rename_i fs hfs
        split at h
        · rename_i fd hfd
          split at h
          · rename_i ft hft
            cases hz : Nat.beq ft.info.size 0 with
            | true => simp [hz] at h
            | false =>
              simp only [hz, cond_false] at h
              cases h
              rw [getL_eq] at hfd
              have hf' : fs[f]? = some fd := by simpa using hfd
              have hne : ft.info.size ≠ 0 := Nat.ne_of_beq_eq_false hz
              simp only [execOp, ha.ev hx, Instr.fieldAt, Sem.run_bind, run_underlying hs, Result.andThen_ok, hfs, hf', Instr.sureAddr, Sem.run_pure, fieldPlace, run_sizeOf hft]
              rw [if_neg hne]
              simp only [Sem.run_pure, Result.andThen_ok, Addr.add]
              by_cases h0 : fd.offset = 0
              · simp [h0]
              · simp [h0]
          · cases h
        · cases h
      · cases h
    · cases h
  | field s x f =>
    simp only [pureOp] at h
    split at h
    · rename_i ty' cs hs hx
      split at h
      · rename_i fs hfs
        split at h
        · rename_i fd hfd
          split at h
          · rename_i ft hft
            rw [getL_eq] at hfd
            have hf' : fs[f]? = some fd := by simpa using hfd
            simp only [execOp, ha.ev hx, Instr.field, Sem.run_bind, run_underlying hs, Result.andThen_ok, hfs, hf', asAgg, Sem.run_pure, part, run_isAgg hft]
            cases hg : ft.isAgg with
            | true =>
              simp only [hg, cond_true] at h
              cases h
              simp [run_sizeOf hft]
            | false =>
              simp only [hg, cond_false, getL_eq] at h
              have h' : cs[fd.offset]? = some v := by simpa using h
              simp [h']
          · cases h
        · cases h
      · cases h
    · cases h
  | extract x i =>
    simp only [pureOp] at h
    split at h
    · rename_i vs hx
      rw [getL_eq] at h
      have h' : vs[i]? = some v := by simpa using h
      simp [execOp, ha.ev hx, Instr.extract, h']
    · cases h
  | unOp op t x =>
    simp only [pureOp] at h
    split at h
    · rename_i b hx; cases h; simp [execOp, ha.ev hx, Op.unary]
    · cases h
  | makeFunc fn first captured =>
    simp only [pureOp] at h
    split at h
    · rename_i fs cs h1 h2
      cases h
      simp only [execOp, evs_arr ha _ _ h1, evs_arr ha _ _ h2, Instr.makeFunc, Sem.run_bind, Sem.run_pure, Result.andThen_ok]
    · cases h
  | build t parts =>
    simp only [pureOp] at h
    split at h
    · rename_i ty' ht
      split at h
      · rename_i fs z hfs hz
        cases hin : allIn U fs.toList with
        | false => simp [hin] at h
        | true =>
          simp only [hin, cond_true] at h
          obtain ⟨r, rfl, hr⟩ := buildL_fill ha _ _ _ _ h
          have hp : (fs.mapM (m := Sem) fun f => do pure (f.offset, ← sizeOf f.type)).run P w = .ok (fs.toList.map fun f => (f.offset, sizeIn U f.type)).toArray w := by
            rw [Array.mapM_eq_mapM_toList]
            simp only [Sem.run_map, run_places _ hin, Result.andThen_ok]
          simp only [execOp, Instr.build, Sem.run_bind, run_zeroValue ht hz, run_underlying ht, Result.andThen_ok, hfs]
          rw [hp]
          simp only [Result.andThen_ok, Value.cells, Array.toList_map]
          simp only [Array.toArray_toList] at hr
          rw [show (List.map (fun x : Nat × Operand => match x with | (i, x) => (i, a.eval x)) parts.toList) = parts.toList.map (fun x => (x.1, a.eval x.2)) from rfl]
          rw [hr]
          simp
      · cases h
    · cases h
  | convert src dst x =>
    simp only [pureOp] at h
    split at h
    · rename_i s dd sv hs hd hx
      split at h
      · rename_i h1 h2
        cases h
        simp [execOp, ha.ev hx, convert, run_underlying hs, run_underlying hd, h1, h2]
      · cases h
    · cases h
  | call c =>
    obtain ⟨callee, args, argTypes⟩ := c
    simp only [pureOp] at h
    split at h
    · split at h
      · rename_i t x ht hx
        have hargs : args = #[x] := by apply Array.ext'; simpa using hx
        have htys : argTypes = #[t] := by apply Array.ext'; simpa using ht
        subst hargs; subst htys
        split at h
        · rename_i ty' a1 m1 c1 h1 h2
          split at h
          · rename_i hu
            cases h
            simp [execOp, resolve, invoke, builtin, Builtin.len_, ha.ev h2, run_underlying h1, hu, goInt]
          · cases h
        · rename_i ty' s1 h1 h2
          split at h
          · rename_i hu
            cases h
            simp [execOp, resolve, invoke, builtin, Builtin.len_, ha.ev h2, run_underlying h1, hu, goInt]
          · cases h
        · cases h
      · cases h
    · split at h
      · rename_i x y hx
        have hargs : args = #[x, y] := by apply Array.ext'; simpa using hx
        subst hargs
        split at h
        · rename_i k p k' q h1 h2
          cases h
          simp only [execOp, resolve, invoke, builtin, Builtin.max_, Sem.run_bind, Sem.run_pure, Result.andThen_ok, List.map_toArray, List.map_cons, List.map_nil, ha.ev h1, ha.ev h2, List.foldlM_cons, List.foldlM_nil, Builtin.max2]
          congr 3
          rw [Int.max_def]; by_cases hpq : p ≤ q
          · by_cases h3 : q = p
            · subst h3; simp
            · rw [if_pos (by omega), if_pos hpq]
          · rw [if_neg (by omega), if_neg hpq]
        · cases h
      · cases h
    · split at h
      · rename_i x y hx
        have hargs : args = #[x, y] := by apply Array.ext'; simpa using hx
        subst hargs
        split at h
        · rename_i k p k' q h1 h2
          cases h
          simp only [execOp, resolve, invoke, builtin, Builtin.min_, Sem.run_bind, Sem.run_pure, Result.andThen_ok, List.map_toArray, List.map_cons, List.map_nil, ha.ev h1, ha.ev h2, List.foldlM_cons, List.foldlM_nil, Builtin.min2]
          congr 3
          rw [Int.min_def]; by_cases hpq : p ≤ q
          · by_cases h3 : q = p
            · subst h3; simp
            · rw [if_neg (by omega), if_pos hpq]
          · rw [if_pos (by omega), if_neg hpq]
        · cases h
      · cases h
    · cases h
  | _ => cases h

/-! ## as many of these as stand in a row -/
inductive OutJ where
  | mk (went : Bool) (rest : Pl) (L : Lst)
def advJ (U : Tr) (n : Nat) : Nat → Bool → Pl → Lst → OutJ
  | 0, b, rest, L => .mk b rest L
  | i + 1, b, rest, L => match rest with
    | .cons _ true ⟨some d, op, _, _, _, _⟩ rs => bif Nat.blt d n then
        (match pureOp U op L with
        | some v => advJ U n i true rs ((d, v) :: L)
        | none => .mk b rest L) else .mk b rest L
    | _ => .mk b rest L

end

section
variable {P : Program} {U : Tr} [hU : TabOk P U] {f : FuncId} {n : Nat} {R : Ending → World → Prop} {G : Glob} {k : List Item} {L : Lst} {H : List HP} {S : World → Prop} {all : Array Oper} {rest : Pl}
/-- An operation that yields v in whatever world. -/
theorem J_pure {m : Bool} {d : Tmp} {op : Op} {ty : TypeId} {pos : String} {af : Array Edge} {gd : Option (Nat × Bool)} {v : Value} (hd : Nat.blt d n = true)
    (hv : ∀ a, Has n L a → ∀ w, (execOp a.eval ⟨some d, op, ty, pos, af, gd⟩).run P w = .ok (.value v) w)
    (h : J P f n R G S all rest k ((d, v) :: L) H) : J P f n R G S all (.cons m true ⟨some d, op, ty, pos, af, gd⟩ rest) k L H := by
  intro a w ha hw hS
  have h1 := h _ w (ha.put hd v) hw (Sx.of hS)
  refine .inl ⟨.inl rfl, ?_⟩
  cases m with
  | true => exact .inl ⟨rfl, v, fun w _ => hv a ha.1 w, h1⟩
  | false =>
    refine .inr ⟨rfl, ?_⟩
    exact wpIn_value (hv a ha.1 w) ⟨Sx.of hS, h1⟩
theorem J_advJ (i : Nat) : ∀ {b b' : Bool} {rest rest' : Pl} {L L' : Lst}, advJ U n i b rest L = .mk b' rest' L' → J P f n R G S all rest' k L' H → J P f n R G S all rest k L H := by
  induction i with
  | zero => intro b b' rest rest' L L' h hj; simp only [advJ] at h; cases h; exact hj
  | succ i ih =>
    intro b b' rest rest' L L' h hj
    simp only [advJ] at h
    split at h
    · rename_i m d op ty pos af gd rs
      cases hd : Nat.blt d n with
      | false => simp only [hd, cond_false] at h; cases h; exact hj
      | true =>
        simp only [hd, cond_true] at h
        split at h
        · rename_i v hv
          exact J_pure hd (fun a ha w => pureOp_sound hv ha w) (ih h hj)
        · cases h; exact hj
    · cases h; exact hj
/-- The form that is used: it must have gone on. -/
theorem J_adv {rest' : Pl} {L' : Lst} (h : advJ U n 1000 false rest L = .mk true rest' L') (hj : J P f n R G S all rest' k L' H) : J P f n R G S all rest k L H :=
  J_advJ 1000 h hj
end
end Go.SL
