/-
  Operations on numbers, bools and strings, on abstract values: what they come to, and that the machine's do.
  Conditions: none; nothing here speaks of one program.
-/
import Derived.Test.YtkpeknkpleocgaaDoorEngC
set_option linter.unusedSimpArgs false
set_option linter.unusedVariables false
namespace Go.AL
open Go

def vInt (op : BinOp) (k : IntKind) (a b : Int) : Option Value :=
  match op with
  | .add => some (.int k (k.wrap (a + b)))
  | .sub => some (.int k (k.wrap (a - b)))
  | .mul => some (.int k (k.wrap (a * b)))
  | .quo => if b = 0 then none else some (.int k (k.wrap (a.tdiv b)))
  | .rem => if b = 0 then none else some (.int k (a.tmod b))
  | .and => some (.int k (k.wrap (BitVec.ofInt k.bits a &&& BitVec.ofInt k.bits b).toNat))
  | .or => some (.int k (k.wrap (BitVec.ofInt k.bits a ||| BitVec.ofInt k.bits b).toNat))
  | .xor => some (.int k (k.wrap (BitVec.ofInt k.bits a ^^^ BitVec.ofInt k.bits b).toNat))
  | .andNot => some (.int k (k.wrap (BitVec.ofInt k.bits a &&& ~~~BitVec.ofInt k.bits b).toNat))
  | .eql => some (.bool (a == b))
  | .neq => some (.bool (a != b))
  | .lss => some (.bool (decide (a < b)))
  | .leq => some (.bool (decide (a ≤ b)))
  | .gtr => some (.bool (decide (a > b)))
  | .geq => some (.bool (decide (a ≥ b)))
  | _ => none

def vShift (op : BinOp) (k : IntKind) (a b : Int) : Option Value :=
  if b < 0 then none else
  match op with
  | .shl => some (.int k (k.wrap (a * 2 ^ min b.toNat k.bits)))
  | .shr => some (.int k (a.fdiv (2 ^ min b.toNat k.bits)))
  | _ => none

def isShift : BinOp → Bool
  | .shl | .shr => true
  | _ => false

def vStr (op : BinOp) (x y : ByteArray) : Option Value :=
  match op with
  | .add => if ((x.size + y.size : Nat) : Int) > IntKind.i64.max then none else some (.string (x ++ y))
  | .eql => some (.bool (x.toList == y.toList))
  | .neq => some (.bool (!(x.toList == y.toList)))
  | .lss => some (.bool (Op.bytesLess x.toList y.toList))
  | .leq => some (.bool (Op.bytesLess x.toList y.toList || x.toList == y.toList))
  | .gtr => some (.bool !(Op.bytesLess x.toList y.toList || x.toList == y.toList))
  | .geq => some (.bool !(Op.bytesLess x.toList y.toList))
  | _ => none

def isBool (P : Program) (t : TypeId) : Bool := match P.underlying t with | some .bool => true | _ => false

def vBin (P : Program) (op : BinOp) (t : TypeId) (x y : Value) : Option Value :=
  match x, y with
  | .int k a, .int k' b => if isShift op then vShift op k a b else if k = k' then vInt op k a b else none
  | .string a, .string b => vStr op a b
  | .bool a, .bool b => if isBool P t then (match op with | .eql => some (.bool (a == b)) | .neq => some (.bool (!(a == b))) | _ => none) else none
  | _, _ => none

theorem eqGuard_plain {P : Program} {w : World} {op t xo yo a b} (h : ∀ cs, a ≠ .agg cs) (hn : a ≠ .nilIface) : (eqGuard op t xo yo a b).run P w = .ok () w := by
  unfold eqGuard
  cases a <;> first | exact absurd rfl hn | exact absurd rfl (h _) | (cases op <;> simp) | skip

theorem equal_bool {P : Program} {t : TypeId} (hu : P.underlying t = some .bool) (a b : Bool) (w : World) : (Op.equal t (.bool a) (.bool b)).run P w = .ok (a == b) w := by
  have hd : Op.maxDepth = 9999 + 1 := rfl
  unfold Op.equal
  rw [hd, Op.equalIn, Sem.run_bind, run_underlying hu, Result.andThen_ok]
  rfl

theorem vBin_run {P : Program} {op t x y v} (h : vBin P op t x y = some v) (xo yo : Operand) (w : World) :
    (do eqGuard op t xo yo x y; binOp op t x y : Sem Value).run P w = .ok v w := by
  unfold vBin at h
  split at h
  · rename_i k a k' b
    rw [Sem.run_bind, eqGuard_plain (by simp) (by simp), Result.andThen_ok]
    split at h
    · unfold vShift at h
      split at h
      · cases h
      · rename_i hs hb
        cases op <;> simp [isShift] at hs
        all_goals
          simp only [Option.some.injEq] at h
          subst h
          simp [binOp, Op.shift, hb]
    · rename_i hs
      split at h
      · rename_i hk
        subst hk
        cases op <;> simp [isShift] at hs <;> simp only [vInt] at h
        case quo => split at h; · cases h
                    · rename_i hb; cases h; simp [binOp, Op.intDiv, hb]
        case rem => split at h; · cases h
                    · rename_i hb; cases h; simp [binOp, Op.intDiv, hb]
        all_goals first
          | (cases h; done)
          | (simp only [Option.some.injEq] at h; subst h; simp [binOp, Op.intArith, Op.intBits, Op.intCmp]; done)
      · cases h
  · rename_i a b
    rw [Sem.run_bind, eqGuard_plain (by simp) (by simp), Result.andThen_ok]
    cases op <;> simp only [vStr] at h
    case add => split at h; · cases h
                · rename_i hb; cases h; simp only [binOp, Op.stringOp]; rw [if_neg hb]; rfl
    all_goals first
      | (cases h; done)
      | (simp only [Option.some.injEq] at h; subst h; simp [binOp, Op.stringOp]; done)
  · rename_i a b
    rw [Sem.run_bind, eqGuard_plain (by simp) (by simp), Result.andThen_ok]
    split at h
    · rename_i ht
      have hu : P.underlying t = some .bool := by
        unfold isBool at ht
        split at ht
        · assumption
        · cases ht
      cases op <;> simp only at h
      case eql => cases h; simp only [binOp]; rw [Sem.run_bind, equal_bool hu]; rfl
      case neq => cases h; simp only [binOp]; rw [Sem.run_bind, equal_bool hu]; rfl
      all_goals cases h
    · cases h
  · cases h

def vUn (op : UnOp) (x : Value) : Option Value :=
  match op, x with
  | .neg, .int k n => some (.int k (k.wrap (0 - n)))
  | .xor, .int k n => some (.int k (k.wrap (BitVec.ofInt k.bits (if k.signed then -1 else k.max) ^^^ BitVec.ofInt k.bits n).toNat))
  | .not, .bool b => some (.bool !b)
  | _, _ => none

theorem vUn_run {P : Program} {op x v} (h : vUn op x = some v) (w : World) : (Op.unary op x).run P w = .ok v w := by
  unfold vUn at h
  split at h <;> first
    | (cases h; done)
    | (simp only [Option.some.injEq] at h; subst h; simp [Op.unary, Op.intArith, Op.intBits]; done)

def vConv (P : Program) (d : TypeId) (x : Value) : Option Value :=
  match P.underlying d, x with
  | some (.int k), .int _ n => some (.int k (k.wrap n))
  | some .string, .string s => some (.string s)
  | _, _ => none

theorem vConv_run {P : Program} {s d x v} (hs : (P.underlying s).isSome = true) (h : vConv P d x = some v) (w : World) : (convert s d x).run P w = .ok v w := by
  obtain ⟨u, hu⟩ := Option.isSome_iff_exists.1 hs
  unfold vConv at h
  split at h
  · rename_i k _ n hd; cases h
    simp [convert, run_underlying hu, run_underlying hd, Conv.intToInt]
  · rename_i b hd; cases h
    simp [convert, run_underlying hu, run_underlying hd]
  · cases h

/-- Two rows of one-cell data compared. -/
def pvEqs : List PV → List PV → Option Bool
  | [], [] => some true
  | .s (.int k a) :: xs, .s (.int k' b) :: ys => if k = k' then (pvEqs xs ys).map fun r => a == b && r else none
  | .s (.bool a) :: xs, .s (.bool b) :: ys => (pvEqs xs ys).map fun r => a == b && r
  | _, _ => none

end Go.AL
