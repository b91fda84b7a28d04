/-
  Numbers, bools and strings as typed data, and the rules by which simp runs operations on them.
  Conditions: none; nothing here speaks of one program. Written by gen_engn.py.
-/
import Derived.Test.YtkpeknkpleocgaaDoorEngM
namespace Go.AL
open Go

def i64 (n : Int) : PV := .s (.int .i64 n)
def bo (b : Bool) : PV := .s (.bool b)
def str (s : ByteArray) : PV := .s (.string s)
def b8 (x : BitVec 8) : PV := .s (.int .u8 x.toNat)
def w16 (x : BitVec 16) : PV := .s (.int .u16 x.toNat)
def w32 (x : BitVec 32) : PV := .s (.int .u32 x.toNat)
def w64 (x : BitVec 64) : PV := .s (.int .u64 x.toNat)

theorem wrap_lo {n : Int} (h1 : -9223372036854775808 ≤ n) (h2 : n ≤ 9223372036854775807) : IntKind.i64.wrap n = n := by rw [IntKind.wrap_i64]; omega

theorem bv_lt {w : Nat} (x : BitVec w) : (x.toNat : Int) < 2 ^ w := by have := x.isLt; exact_mod_cast this

theorem bv_ofInt {w : Nat} (x : BitVec w) : BitVec.ofInt w (x.toNat : Int) = x := by simp

theorem bv_shl {w : Nat} (x : BitVec w) (n : Nat) : ((x.toNat : Int) * 2 ^ min n w) % 2 ^ w = ((x <<< n).toNat : Int) := by
  have h : (x.toNat * 2 ^ min n w) % 2 ^ w = (x <<< n).toNat := by
    rw [BitVec.toNat_shiftLeft, Nat.shiftLeft_eq]
    rcases Nat.le_total n w with h | h
    · rw [Nat.min_eq_left h]
    · rw [Nat.min_eq_right h, Nat.mul_mod_left]
      obtain ⟨d, rfl⟩ := Nat.exists_eq_add_of_le h
      rw [Nat.pow_add, ← Nat.mul_assoc, Nat.mul_right_comm, Nat.mul_mod_left]
  exact_mod_cast h

theorem bv_shr {w : Nat} (x : BitVec w) (n : Nat) : (x.toNat : Int).fdiv (2 ^ min n w) = ((x >>> n).toNat : Int) := by
  have h : x.toNat / 2 ^ min n w = (x >>> n).toNat := by
    rw [BitVec.toNat_ushiftRight, Nat.shiftRight_eq_div_pow]
    rcases Nat.le_total n w with h | h
    · rw [Nat.min_eq_left h]
    · rw [Nat.min_eq_right h, Nat.div_eq_of_lt x.isLt, Nat.div_eq_of_lt]
      exact Nat.lt_of_lt_of_le x.isLt (Nat.pow_le_pow_right (by omega) h)
  rw [Int.fdiv_eq_ediv_of_nonneg _ (Int.pow_nonneg (by decide)), ← h]
  norm_cast

theorem cells_i64 (n : Int) : (i64 n).cells = [i64 n] := rfl
theorem weak_i64 (n : Int) : (i64 n).weak = i64 n := rfl
theorem weak1_i64 (n : Int) : (i64 n).weak1 = i64 n := rfl
theorem acells_i64 (n : Int) : acells (.p (i64 n)) = some [.p (i64 n)] := rfl
theorem isAgg_i64 (n : Int) : (i64 n).isAgg = false := rfl
theorem mkElem_i64 (n : Int) : mkElem false [.p (i64 n)] = some (i64 n) := rfl
theorem isAggV_i64 (n : Int) : (AV.p (i64 n)).isAggV = false := rfl
theorem cells_bo (b : Bool) : (bo b).cells = [bo b] := rfl
theorem weak_bo (b : Bool) : (bo b).weak = bo b := rfl
theorem weak1_bo (b : Bool) : (bo b).weak1 = bo b := rfl
theorem acells_bo (b : Bool) : acells (.p (bo b)) = some [.p (bo b)] := rfl
theorem isAgg_bo (b : Bool) : (bo b).isAgg = false := rfl
theorem mkElem_bo (b : Bool) : mkElem false [.p (bo b)] = some (bo b) := rfl
theorem isAggV_bo (b : Bool) : (AV.p (bo b)).isAggV = false := rfl
theorem cells_str (s : ByteArray) : (str s).cells = [str s] := rfl
theorem weak_str (s : ByteArray) : (str s).weak = str s := rfl
theorem weak1_str (s : ByteArray) : (str s).weak1 = str s := rfl
theorem acells_str (s : ByteArray) : acells (.p (str s)) = some [.p (str s)] := rfl
theorem isAgg_str (s : ByteArray) : (str s).isAgg = false := rfl
theorem mkElem_str (s : ByteArray) : mkElem false [.p (str s)] = some (str s) := rfl
theorem isAggV_str (s : ByteArray) : (AV.p (str s)).isAggV = false := rfl
theorem cells_b8 (x : BitVec 8) : (b8 x).cells = [b8 x] := rfl
theorem weak_b8 (x : BitVec 8) : (b8 x).weak = b8 x := rfl
theorem weak1_b8 (x : BitVec 8) : (b8 x).weak1 = b8 x := rfl
theorem acells_b8 (x : BitVec 8) : acells (.p (b8 x)) = some [.p (b8 x)] := rfl
theorem isAgg_b8 (x : BitVec 8) : (b8 x).isAgg = false := rfl
theorem mkElem_b8 (x : BitVec 8) : mkElem false [.p (b8 x)] = some (b8 x) := rfl
theorem isAggV_b8 (x : BitVec 8) : (AV.p (b8 x)).isAggV = false := rfl
theorem cells_w16 (x : BitVec 16) : (w16 x).cells = [w16 x] := rfl
theorem weak_w16 (x : BitVec 16) : (w16 x).weak = w16 x := rfl
theorem weak1_w16 (x : BitVec 16) : (w16 x).weak1 = w16 x := rfl
theorem acells_w16 (x : BitVec 16) : acells (.p (w16 x)) = some [.p (w16 x)] := rfl
theorem isAgg_w16 (x : BitVec 16) : (w16 x).isAgg = false := rfl
theorem mkElem_w16 (x : BitVec 16) : mkElem false [.p (w16 x)] = some (w16 x) := rfl
theorem isAggV_w16 (x : BitVec 16) : (AV.p (w16 x)).isAggV = false := rfl
theorem cells_w32 (x : BitVec 32) : (w32 x).cells = [w32 x] := rfl
theorem weak_w32 (x : BitVec 32) : (w32 x).weak = w32 x := rfl
theorem weak1_w32 (x : BitVec 32) : (w32 x).weak1 = w32 x := rfl
theorem acells_w32 (x : BitVec 32) : acells (.p (w32 x)) = some [.p (w32 x)] := rfl
theorem isAgg_w32 (x : BitVec 32) : (w32 x).isAgg = false := rfl
theorem mkElem_w32 (x : BitVec 32) : mkElem false [.p (w32 x)] = some (w32 x) := rfl
theorem isAggV_w32 (x : BitVec 32) : (AV.p (w32 x)).isAggV = false := rfl
theorem cells_w64 (x : BitVec 64) : (w64 x).cells = [w64 x] := rfl
theorem weak_w64 (x : BitVec 64) : (w64 x).weak = w64 x := rfl
theorem weak1_w64 (x : BitVec 64) : (w64 x).weak1 = w64 x := rfl
theorem acells_w64 (x : BitVec 64) : acells (.p (w64 x)) = some [.p (w64 x)] := rfl
theorem isAgg_w64 (x : BitVec 64) : (w64 x).isAgg = false := rfl
theorem mkElem_w64 (x : BitVec 64) : mkElem false [.p (w64 x)] = some (w64 x) := rfl
theorem isAggV_w64 (x : BitVec 64) : (AV.p (w64 x)).isAggV = false := rfl
theorem int_i64 (n : Int) : (AV.p (i64 n)).int? = some n := rfl
theorem int_b8 (x : BitVec 8) : (AV.p (b8 x)).int? = some (x.toNat : Int) := rfl
theorem int_w16 (x : BitVec 16) : (AV.p (w16 x)).int? = some (x.toNat : Int) := rfl
theorem int_w32 (x : BitVec 32) : (AV.p (w32 x)).int? = some (x.toNat : Int) := rfl
theorem int_w64 (x : BitVec 64) : (AV.p (w64 x)).int? = some (x.toNat : Int) := rfl
theorem aconst_i64 (n : Int) : aconst (.int .i64 n) = .p (i64 n) := rfl
theorem aconst_bo (b : Bool) : aconst (.bool b) = .p (bo b) := rfl
theorem aconst_str (s : ByteArray) : aconst (.string s) = .p (str s) := rfl
theorem aconst_b8 (n : Int) (h0 : 0 ≤ n) (h1 : n < 256) : aconst (.int .u8 n) = .p (b8 (BitVec.ofInt 8 n)) := by
  have : ((BitVec.ofInt 8 n).toNat : Int) = n := by rw [BitVec.toNat_ofInt]; simp only [Int.reducePow, Nat.reducePow, Int.cast_ofNat_Int]; omega
  unfold aconst b8; rw [this]
theorem aconst_w16 (n : Int) (h0 : 0 ≤ n) (h1 : n < 65536) : aconst (.int .u16 n) = .p (w16 (BitVec.ofInt 16 n)) := by
  have : ((BitVec.ofInt 16 n).toNat : Int) = n := by rw [BitVec.toNat_ofInt]; simp only [Int.reducePow, Nat.reducePow, Int.cast_ofNat_Int]; omega
  unfold aconst w16; rw [this]
theorem aconst_w32 (n : Int) (h0 : 0 ≤ n) (h1 : n < 4294967296) : aconst (.int .u32 n) = .p (w32 (BitVec.ofInt 32 n)) := by
  have : ((BitVec.ofInt 32 n).toNat : Int) = n := by rw [BitVec.toNat_ofInt]; simp only [Int.reducePow, Nat.reducePow, Int.cast_ofNat_Int]; omega
  unfold aconst w32; rw [this]
theorem aconst_w64 (n : Int) (h0 : 0 ≤ n) (h1 : n < 18446744073709551616) : aconst (.int .u64 n) = .p (w64 (BitVec.ofInt 64 n)) := by
  have : ((BitVec.ofInt 64 n).toNat : Int) = n := by rw [BitVec.toNat_ofInt]; simp only [Int.reducePow, Nat.reducePow, Int.cast_ofNat_Int]; omega
  unfold aconst w64; rw [this]
theorem bin_add_b8 (P : Program) (t : TypeId) (x y : BitVec 8) : aBin P .add t (.p (b8 x)) (.p (b8 y)) = some (.p (b8 (x + y))) := by
  simp only [aBin, b8, vBin, isShift, vInt, Bool.false_eq_true, if_false, if_true, Option.map_some]
  have h : ((x.toNat : Int) + y.toNat) % 256 = ((x + y).toNat : Int) := by
    rw [BitVec.toNat_add]; simp only [Nat.reducePow]; omega
  rw [IntKind.wrap_u8, h]
theorem bin_sub_b8 (P : Program) (t : TypeId) (x y : BitVec 8) : aBin P .sub t (.p (b8 x)) (.p (b8 y)) = some (.p (b8 (x - y))) := by
  simp only [aBin, b8, vBin, isShift, vInt, Bool.false_eq_true, if_false, if_true, Option.map_some]
  have h : ((x.toNat : Int) - y.toNat) % 256 = ((x - y).toNat : Int) := by
    rw [BitVec.toNat_sub]; have := x.isLt; have := y.isLt; simp only [Nat.reducePow] at *; omega
  rw [IntKind.wrap_u8, h]
theorem bin_mul_b8 (P : Program) (t : TypeId) (x y : BitVec 8) : aBin P .mul t (.p (b8 x)) (.p (b8 y)) = some (.p (b8 (x * y))) := by
  simp only [aBin, b8, vBin, isShift, vInt, Bool.false_eq_true, if_false, if_true, Option.map_some]
  have h : ((x.toNat : Int) * y.toNat) % 256 = ((x * y).toNat : Int) := by
    rw [BitVec.toNat_mul, Int.natCast_emod, Int.natCast_mul]; rfl
  rw [IntKind.wrap_u8, h]
theorem bin_and_b8 (P : Program) (t : TypeId) (x y : BitVec 8) : aBin P .and t (.p (b8 x)) (.p (b8 y)) = some (.p (b8 (x &&& y))) := by
  simp only [aBin, b8, vBin, isShift, vInt, Bool.false_eq_true, if_false, if_true, Option.map_some]
  have h : IntKind.u8.wrap (((x &&& y).toNat : Nat) : Int) = (((x &&& y).toNat : Nat) : Int) := by
    rw [IntKind.wrap_u8]; have := (x &&& y).isLt; simp only [Nat.reducePow] at this; omega
  have h1 : BitVec.ofInt IntKind.u8.bits (x.toNat : Int) = x := bv_ofInt x
  have h2 : BitVec.ofInt IntKind.u8.bits (y.toNat : Int) = y := bv_ofInt y
  rw [h1, h2]
  exact congrArg (fun n => some (AV.p (PV.s (Value.int IntKind.u8 n)))) h
theorem bin_or_b8 (P : Program) (t : TypeId) (x y : BitVec 8) : aBin P .or t (.p (b8 x)) (.p (b8 y)) = some (.p (b8 (x ||| y))) := by
  simp only [aBin, b8, vBin, isShift, vInt, Bool.false_eq_true, if_false, if_true, Option.map_some]
  have h : IntKind.u8.wrap (((x ||| y).toNat : Nat) : Int) = (((x ||| y).toNat : Nat) : Int) := by
    rw [IntKind.wrap_u8]; have := (x ||| y).isLt; simp only [Nat.reducePow] at this; omega
  have h1 : BitVec.ofInt IntKind.u8.bits (x.toNat : Int) = x := bv_ofInt x
  have h2 : BitVec.ofInt IntKind.u8.bits (y.toNat : Int) = y := bv_ofInt y
  rw [h1, h2]
  exact congrArg (fun n => some (AV.p (PV.s (Value.int IntKind.u8 n)))) h
theorem bin_xor_b8 (P : Program) (t : TypeId) (x y : BitVec 8) : aBin P .xor t (.p (b8 x)) (.p (b8 y)) = some (.p (b8 (x ^^^ y))) := by
  simp only [aBin, b8, vBin, isShift, vInt, Bool.false_eq_true, if_false, if_true, Option.map_some]
  have h : IntKind.u8.wrap (((x ^^^ y).toNat : Nat) : Int) = (((x ^^^ y).toNat : Nat) : Int) := by
    rw [IntKind.wrap_u8]; have := (x ^^^ y).isLt; simp only [Nat.reducePow] at this; omega
  have h1 : BitVec.ofInt IntKind.u8.bits (x.toNat : Int) = x := bv_ofInt x
  have h2 : BitVec.ofInt IntKind.u8.bits (y.toNat : Int) = y := bv_ofInt y
  rw [h1, h2]
  exact congrArg (fun n => some (AV.p (PV.s (Value.int IntKind.u8 n)))) h
theorem bin_andNot_b8 (P : Program) (t : TypeId) (x y : BitVec 8) : aBin P .andNot t (.p (b8 x)) (.p (b8 y)) = some (.p (b8 (x &&& ~~~y))) := by
  simp only [aBin, b8, vBin, isShift, vInt, Bool.false_eq_true, if_false, if_true, Option.map_some]
  have h : IntKind.u8.wrap (((x &&& ~~~y).toNat : Nat) : Int) = (((x &&& ~~~y).toNat : Nat) : Int) := by
    rw [IntKind.wrap_u8]; have := (x &&& ~~~y).isLt; simp only [Nat.reducePow] at this; omega
  have h1 : BitVec.ofInt IntKind.u8.bits (x.toNat : Int) = x := bv_ofInt x
  have h2 : BitVec.ofInt IntKind.u8.bits (y.toNat : Int) = y := bv_ofInt y
  rw [h1, h2]
  exact congrArg (fun n => some (AV.p (PV.s (Value.int IntKind.u8 n)))) h
theorem bin_eql_b8 (P : Program) (t : TypeId) (x y : BitVec 8) : aBin P .eql t (.p (b8 x)) (.p (b8 y)) = some (.p (bo (x == y))) := by
  simp only [aBin, b8, vBin, isShift, vInt, Bool.false_eq_true, if_false, if_true, Option.map_some]
  have h : ((x.toNat : Int) == (y.toNat : Int)) = (x == y) := by
    rw [Bool.eq_iff_iff]; simp only [beq_iff_eq, Int.ofNat_inj]; exact BitVec.toNat_inj
  simp only [bo, bne, h]
theorem bin_neq_b8 (P : Program) (t : TypeId) (x y : BitVec 8) : aBin P .neq t (.p (b8 x)) (.p (b8 y)) = some (.p (bo (x != y))) := by
  simp only [aBin, b8, vBin, isShift, vInt, Bool.false_eq_true, if_false, if_true, Option.map_some]
  have h : ((x.toNat : Int) == (y.toNat : Int)) = (x == y) := by
    rw [Bool.eq_iff_iff]; simp only [beq_iff_eq, Int.ofNat_inj]; exact BitVec.toNat_inj
  simp only [bo, bne, h]
theorem bin_lss_b8 (P : Program) (t : TypeId) (x y : BitVec 8) : aBin P .lss t (.p (b8 x)) (.p (b8 y)) = some (.p (bo (decide (x < y)))) := by
  simp only [aBin, b8, vBin, isShift, vInt, Bool.false_eq_true, if_false, if_true, Option.map_some]
  simp only [bo, BitVec.lt_def, BitVec.le_def, gt_iff_lt, ge_iff_le, Int.ofNat_lt, Int.ofNat_le]
theorem bin_leq_b8 (P : Program) (t : TypeId) (x y : BitVec 8) : aBin P .leq t (.p (b8 x)) (.p (b8 y)) = some (.p (bo (decide (x ≤ y)))) := by
  simp only [aBin, b8, vBin, isShift, vInt, Bool.false_eq_true, if_false, if_true, Option.map_some]
  simp only [bo, BitVec.lt_def, BitVec.le_def, gt_iff_lt, ge_iff_le, Int.ofNat_lt, Int.ofNat_le]
theorem bin_gtr_b8 (P : Program) (t : TypeId) (x y : BitVec 8) : aBin P .gtr t (.p (b8 x)) (.p (b8 y)) = some (.p (bo (decide (y < x)))) := by
  simp only [aBin, b8, vBin, isShift, vInt, Bool.false_eq_true, if_false, if_true, Option.map_some]
  simp only [bo, BitVec.lt_def, BitVec.le_def, gt_iff_lt, ge_iff_le, Int.ofNat_lt, Int.ofNat_le]
theorem bin_geq_b8 (P : Program) (t : TypeId) (x y : BitVec 8) : aBin P .geq t (.p (b8 x)) (.p (b8 y)) = some (.p (bo (decide (y ≤ x)))) := by
  simp only [aBin, b8, vBin, isShift, vInt, Bool.false_eq_true, if_false, if_true, Option.map_some]
  simp only [bo, BitVec.lt_def, BitVec.le_def, gt_iff_lt, ge_iff_le, Int.ofNat_lt, Int.ofNat_le]
theorem bin_quo_b8 (P : Program) (t : TypeId) (x y : BitVec 8) (hy : y ≠ 0#8) : aBin P .quo t (.p (b8 x)) (.p (b8 y)) = some (.p (b8 (x / y))) := by
  simp only [aBin, b8, vBin, isShift, vInt, Bool.false_eq_true, if_false, if_true, Option.map_some]
  have hn : ¬ ((y.toNat : Int) = 0) := fun h => hy (BitVec.eq_of_toNat_eq (by simpa using h))
  rw [if_neg hn]
  have h : IntKind.u8.wrap ((x.toNat : Int).tdiv y.toNat) = ((x / y).toNat : Int) := by
    rw [IntKind.wrap_u8, Int.tdiv_eq_ediv_of_nonneg (by omega), BitVec.toNat_udiv]
    have h1 : x.toNat / y.toNat ≤ x.toNat := Nat.div_le_self _ _
    have h2 := x.isLt
    simp only [Nat.reducePow] at h2
    rw [← Int.natCast_ediv]
    generalize x.toNat / y.toNat = q at *
    omega
  rw [h, Option.map_some]
theorem bin_rem_b8 (P : Program) (t : TypeId) (x y : BitVec 8) (hy : y ≠ 0#8) : aBin P .rem t (.p (b8 x)) (.p (b8 y)) = some (.p (b8 (x % y))) := by
  simp only [aBin, b8, vBin, isShift, vInt, Bool.false_eq_true, if_false, if_true, Option.map_some]
  have hn : ¬ ((y.toNat : Int) = 0) := fun h => hy (BitVec.eq_of_toNat_eq (by simpa using h))
  rw [if_neg hn]
  have h : ((x.toNat : Int).tmod y.toNat) = ((x % y).toNat : Int) := by
    rw [Int.tmod_eq_emod_of_nonneg (by omega), BitVec.toNat_umod, Int.natCast_emod]
  rw [h, Option.map_some]
theorem bin_shl_b8_i64 (P : Program) (t : TypeId) (x : BitVec 8) (n : Int) (hn : 0 ≤ n) : aBin P .shl t (.p (b8 x)) (.p (i64 n)) = some (.p (b8 (x <<< n.toNat))) := by
  simp only [aBin, b8, i64, vBin, isShift, vShift, if_true]
  rw [if_neg (by omega)]
  simp only [Option.map_some]
  have := bv_shl x n.toNat
  rw [IntKind.wrap_u8]
  exact congrArg (fun n => some (AV.p (PV.s (Value.int IntKind.u8 n)))) this
theorem bin_shr_b8_i64 (P : Program) (t : TypeId) (x : BitVec 8) (n : Int) (hn : 0 ≤ n) : aBin P .shr t (.p (b8 x)) (.p (i64 n)) = some (.p (b8 (x >>> n.toNat))) := by
  simp only [aBin, b8, i64, vBin, isShift, vShift, if_true]
  rw [if_neg (by omega)]
  simp only [Option.map_some]
  have := bv_shr x n.toNat
  exact congrArg (fun n => some (AV.p (PV.s (Value.int IntKind.u8 n)))) this
theorem bin_shl_b8_b8 (P : Program) (t : TypeId) (x : BitVec 8) (y : BitVec 8) : aBin P .shl t (.p (b8 x)) (.p (b8 y)) = some (.p (b8 (x <<< y.toNat))) := by
  simp only [aBin, b8, b8, vBin, isShift, vShift, if_true]
  rw [if_neg (by omega)]
  simp only [Option.map_some]
  rw [Int.toNat_natCast]
  have := bv_shl x y.toNat
  rw [IntKind.wrap_u8]
  exact congrArg (fun n => some (AV.p (PV.s (Value.int IntKind.u8 n)))) this
theorem bin_shr_b8_b8 (P : Program) (t : TypeId) (x : BitVec 8) (y : BitVec 8) : aBin P .shr t (.p (b8 x)) (.p (b8 y)) = some (.p (b8 (x >>> y.toNat))) := by
  simp only [aBin, b8, b8, vBin, isShift, vShift, if_true]
  rw [if_neg (by omega)]
  simp only [Option.map_some]
  rw [Int.toNat_natCast]
  have := bv_shr x y.toNat
  exact congrArg (fun n => some (AV.p (PV.s (Value.int IntKind.u8 n)))) this
theorem bin_shl_b8_w16 (P : Program) (t : TypeId) (x : BitVec 8) (y : BitVec 16) : aBin P .shl t (.p (b8 x)) (.p (w16 y)) = some (.p (b8 (x <<< y.toNat))) := by
  simp only [aBin, b8, w16, vBin, isShift, vShift, if_true]
  rw [if_neg (by omega)]
  simp only [Option.map_some]
  rw [Int.toNat_natCast]
  have := bv_shl x y.toNat
  rw [IntKind.wrap_u8]
  exact congrArg (fun n => some (AV.p (PV.s (Value.int IntKind.u8 n)))) this
theorem bin_shr_b8_w16 (P : Program) (t : TypeId) (x : BitVec 8) (y : BitVec 16) : aBin P .shr t (.p (b8 x)) (.p (w16 y)) = some (.p (b8 (x >>> y.toNat))) := by
  simp only [aBin, b8, w16, vBin, isShift, vShift, if_true]
  rw [if_neg (by omega)]
  simp only [Option.map_some]
  rw [Int.toNat_natCast]
  have := bv_shr x y.toNat
  exact congrArg (fun n => some (AV.p (PV.s (Value.int IntKind.u8 n)))) this
theorem bin_shl_b8_w32 (P : Program) (t : TypeId) (x : BitVec 8) (y : BitVec 32) : aBin P .shl t (.p (b8 x)) (.p (w32 y)) = some (.p (b8 (x <<< y.toNat))) := by
  simp only [aBin, b8, w32, vBin, isShift, vShift, if_true]
  rw [if_neg (by omega)]
  simp only [Option.map_some]
  rw [Int.toNat_natCast]
  have := bv_shl x y.toNat
  rw [IntKind.wrap_u8]
  exact congrArg (fun n => some (AV.p (PV.s (Value.int IntKind.u8 n)))) this
theorem bin_shr_b8_w32 (P : Program) (t : TypeId) (x : BitVec 8) (y : BitVec 32) : aBin P .shr t (.p (b8 x)) (.p (w32 y)) = some (.p (b8 (x >>> y.toNat))) := by
  simp only [aBin, b8, w32, vBin, isShift, vShift, if_true]
  rw [if_neg (by omega)]
  simp only [Option.map_some]
  rw [Int.toNat_natCast]
  have := bv_shr x y.toNat
  exact congrArg (fun n => some (AV.p (PV.s (Value.int IntKind.u8 n)))) this
theorem bin_shl_b8_w64 (P : Program) (t : TypeId) (x : BitVec 8) (y : BitVec 64) : aBin P .shl t (.p (b8 x)) (.p (w64 y)) = some (.p (b8 (x <<< y.toNat))) := by
  simp only [aBin, b8, w64, vBin, isShift, vShift, if_true]
  rw [if_neg (by omega)]
  simp only [Option.map_some]
  rw [Int.toNat_natCast]
  have := bv_shl x y.toNat
  rw [IntKind.wrap_u8]
  exact congrArg (fun n => some (AV.p (PV.s (Value.int IntKind.u8 n)))) this
theorem bin_shr_b8_w64 (P : Program) (t : TypeId) (x : BitVec 8) (y : BitVec 64) : aBin P .shr t (.p (b8 x)) (.p (w64 y)) = some (.p (b8 (x >>> y.toNat))) := by
  simp only [aBin, b8, w64, vBin, isShift, vShift, if_true]
  rw [if_neg (by omega)]
  simp only [Option.map_some]
  rw [Int.toNat_natCast]
  have := bv_shr x y.toNat
  exact congrArg (fun n => some (AV.p (PV.s (Value.int IntKind.u8 n)))) this
theorem un_xor_b8 (x : BitVec 8) : aUn .xor (.p (b8 x)) = some (.p (b8 (~~~x))) := by
  have h1 : BitVec.ofInt IntKind.u8.bits (x.toNat : Int) = x := bv_ofInt x
  have h2 : BitVec.ofInt IntKind.u8.bits (if IntKind.u8.signed then -1 else IntKind.u8.max) = BitVec.allOnes 8 := by rfl
  simp only [aUn, b8, vUn, Option.map_some, h1, h2]
  have h : IntKind.u8.wrap (((BitVec.allOnes 8 ^^^ x).toNat : Nat) : Int) = ((~~~x).toNat : Int) := by
    rw [BitVec.allOnes_xor]
    rw [IntKind.wrap_u8]; have := (~~~x).isLt; simp only [Nat.reducePow] at this; omega
  exact congrArg (fun n => some (AV.p (PV.s (Value.int IntKind.u8 n)))) h
theorem un_neg_b8 (x : BitVec 8) : aUn .neg (.p (b8 x)) = some (.p (b8 (-x))) := by
  simp only [aUn, b8, vUn, Option.map_some]
  have h : IntKind.u8.wrap (0 - (x.toNat : Int)) = ((-x).toNat : Int) := by
    rw [IntKind.wrap_u8, BitVec.toNat_neg]; have := x.isLt; simp only [Nat.reducePow] at *; omega
  rw [h]
theorem bin_add_w16 (P : Program) (t : TypeId) (x y : BitVec 16) : aBin P .add t (.p (w16 x)) (.p (w16 y)) = some (.p (w16 (x + y))) := by
  simp only [aBin, w16, vBin, isShift, vInt, Bool.false_eq_true, if_false, if_true, Option.map_some]
  have h : ((x.toNat : Int) + y.toNat) % 65536 = ((x + y).toNat : Int) := by
    rw [BitVec.toNat_add]; simp only [Nat.reducePow]; omega
  rw [IntKind.wrap_u16, h]
theorem bin_sub_w16 (P : Program) (t : TypeId) (x y : BitVec 16) : aBin P .sub t (.p (w16 x)) (.p (w16 y)) = some (.p (w16 (x - y))) := by
  simp only [aBin, w16, vBin, isShift, vInt, Bool.false_eq_true, if_false, if_true, Option.map_some]
  have h : ((x.toNat : Int) - y.toNat) % 65536 = ((x - y).toNat : Int) := by
    rw [BitVec.toNat_sub]; have := x.isLt; have := y.isLt; simp only [Nat.reducePow] at *; omega
  rw [IntKind.wrap_u16, h]
theorem bin_mul_w16 (P : Program) (t : TypeId) (x y : BitVec 16) : aBin P .mul t (.p (w16 x)) (.p (w16 y)) = some (.p (w16 (x * y))) := by
  simp only [aBin, w16, vBin, isShift, vInt, Bool.false_eq_true, if_false, if_true, Option.map_some]
  have h : ((x.toNat : Int) * y.toNat) % 65536 = ((x * y).toNat : Int) := by
    rw [BitVec.toNat_mul, Int.natCast_emod, Int.natCast_mul]; rfl
  rw [IntKind.wrap_u16, h]
theorem bin_and_w16 (P : Program) (t : TypeId) (x y : BitVec 16) : aBin P .and t (.p (w16 x)) (.p (w16 y)) = some (.p (w16 (x &&& y))) := by
  simp only [aBin, w16, vBin, isShift, vInt, Bool.false_eq_true, if_false, if_true, Option.map_some]
  have h : IntKind.u16.wrap (((x &&& y).toNat : Nat) : Int) = (((x &&& y).toNat : Nat) : Int) := by
    rw [IntKind.wrap_u16]; have := (x &&& y).isLt; simp only [Nat.reducePow] at this; omega
  have h1 : BitVec.ofInt IntKind.u16.bits (x.toNat : Int) = x := bv_ofInt x
  have h2 : BitVec.ofInt IntKind.u16.bits (y.toNat : Int) = y := bv_ofInt y
  rw [h1, h2]
  exact congrArg (fun n => some (AV.p (PV.s (Value.int IntKind.u16 n)))) h
theorem bin_or_w16 (P : Program) (t : TypeId) (x y : BitVec 16) : aBin P .or t (.p (w16 x)) (.p (w16 y)) = some (.p (w16 (x ||| y))) := by
  simp only [aBin, w16, vBin, isShift, vInt, Bool.false_eq_true, if_false, if_true, Option.map_some]
  have h : IntKind.u16.wrap (((x ||| y).toNat : Nat) : Int) = (((x ||| y).toNat : Nat) : Int) := by
    rw [IntKind.wrap_u16]; have := (x ||| y).isLt; simp only [Nat.reducePow] at this; omega
  have h1 : BitVec.ofInt IntKind.u16.bits (x.toNat : Int) = x := bv_ofInt x
  have h2 : BitVec.ofInt IntKind.u16.bits (y.toNat : Int) = y := bv_ofInt y
  rw [h1, h2]
  exact congrArg (fun n => some (AV.p (PV.s (Value.int IntKind.u16 n)))) h
theorem bin_xor_w16 (P : Program) (t : TypeId) (x y : BitVec 16) : aBin P .xor t (.p (w16 x)) (.p (w16 y)) = some (.p (w16 (x ^^^ y))) := by
  simp only [aBin, w16, vBin, isShift, vInt, Bool.false_eq_true, if_false, if_true, Option.map_some]
  have h : IntKind.u16.wrap (((x ^^^ y).toNat : Nat) : Int) = (((x ^^^ y).toNat : Nat) : Int) := by
    rw [IntKind.wrap_u16]; have := (x ^^^ y).isLt; simp only [Nat.reducePow] at this; omega
  have h1 : BitVec.ofInt IntKind.u16.bits (x.toNat : Int) = x := bv_ofInt x
  have h2 : BitVec.ofInt IntKind.u16.bits (y.toNat : Int) = y := bv_ofInt y
  rw [h1, h2]
  exact congrArg (fun n => some (AV.p (PV.s (Value.int IntKind.u16 n)))) h
theorem bin_andNot_w16 (P : Program) (t : TypeId) (x y : BitVec 16) : aBin P .andNot t (.p (w16 x)) (.p (w16 y)) = some (.p (w16 (x &&& ~~~y))) := by
  simp only [aBin, w16, vBin, isShift, vInt, Bool.false_eq_true, if_false, if_true, Option.map_some]
  have h : IntKind.u16.wrap (((x &&& ~~~y).toNat : Nat) : Int) = (((x &&& ~~~y).toNat : Nat) : Int) := by
    rw [IntKind.wrap_u16]; have := (x &&& ~~~y).isLt; simp only [Nat.reducePow] at this; omega
  have h1 : BitVec.ofInt IntKind.u16.bits (x.toNat : Int) = x := bv_ofInt x
  have h2 : BitVec.ofInt IntKind.u16.bits (y.toNat : Int) = y := bv_ofInt y
  rw [h1, h2]
  exact congrArg (fun n => some (AV.p (PV.s (Value.int IntKind.u16 n)))) h
theorem bin_eql_w16 (P : Program) (t : TypeId) (x y : BitVec 16) : aBin P .eql t (.p (w16 x)) (.p (w16 y)) = some (.p (bo (x == y))) := by
  simp only [aBin, w16, vBin, isShift, vInt, Bool.false_eq_true, if_false, if_true, Option.map_some]
  have h : ((x.toNat : Int) == (y.toNat : Int)) = (x == y) := by
    rw [Bool.eq_iff_iff]; simp only [beq_iff_eq, Int.ofNat_inj]; exact BitVec.toNat_inj
  simp only [bo, bne, h]
theorem bin_neq_w16 (P : Program) (t : TypeId) (x y : BitVec 16) : aBin P .neq t (.p (w16 x)) (.p (w16 y)) = some (.p (bo (x != y))) := by
  simp only [aBin, w16, vBin, isShift, vInt, Bool.false_eq_true, if_false, if_true, Option.map_some]
  have h : ((x.toNat : Int) == (y.toNat : Int)) = (x == y) := by
    rw [Bool.eq_iff_iff]; simp only [beq_iff_eq, Int.ofNat_inj]; exact BitVec.toNat_inj
  simp only [bo, bne, h]
theorem bin_lss_w16 (P : Program) (t : TypeId) (x y : BitVec 16) : aBin P .lss t (.p (w16 x)) (.p (w16 y)) = some (.p (bo (decide (x < y)))) := by
  simp only [aBin, w16, vBin, isShift, vInt, Bool.false_eq_true, if_false, if_true, Option.map_some]
  simp only [bo, BitVec.lt_def, BitVec.le_def, gt_iff_lt, ge_iff_le, Int.ofNat_lt, Int.ofNat_le]
theorem bin_leq_w16 (P : Program) (t : TypeId) (x y : BitVec 16) : aBin P .leq t (.p (w16 x)) (.p (w16 y)) = some (.p (bo (decide (x ≤ y)))) := by
  simp only [aBin, w16, vBin, isShift, vInt, Bool.false_eq_true, if_false, if_true, Option.map_some]
  simp only [bo, BitVec.lt_def, BitVec.le_def, gt_iff_lt, ge_iff_le, Int.ofNat_lt, Int.ofNat_le]
theorem bin_gtr_w16 (P : Program) (t : TypeId) (x y : BitVec 16) : aBin P .gtr t (.p (w16 x)) (.p (w16 y)) = some (.p (bo (decide (y < x)))) := by
  simp only [aBin, w16, vBin, isShift, vInt, Bool.false_eq_true, if_false, if_true, Option.map_some]
  simp only [bo, BitVec.lt_def, BitVec.le_def, gt_iff_lt, ge_iff_le, Int.ofNat_lt, Int.ofNat_le]
theorem bin_geq_w16 (P : Program) (t : TypeId) (x y : BitVec 16) : aBin P .geq t (.p (w16 x)) (.p (w16 y)) = some (.p (bo (decide (y ≤ x)))) := by
  simp only [aBin, w16, vBin, isShift, vInt, Bool.false_eq_true, if_false, if_true, Option.map_some]
  simp only [bo, BitVec.lt_def, BitVec.le_def, gt_iff_lt, ge_iff_le, Int.ofNat_lt, Int.ofNat_le]
theorem bin_quo_w16 (P : Program) (t : TypeId) (x y : BitVec 16) (hy : y ≠ 0#16) : aBin P .quo t (.p (w16 x)) (.p (w16 y)) = some (.p (w16 (x / y))) := by
  simp only [aBin, w16, vBin, isShift, vInt, Bool.false_eq_true, if_false, if_true, Option.map_some]
  have hn : ¬ ((y.toNat : Int) = 0) := fun h => hy (BitVec.eq_of_toNat_eq (by simpa using h))
  rw [if_neg hn]
  have h : IntKind.u16.wrap ((x.toNat : Int).tdiv y.toNat) = ((x / y).toNat : Int) := by
    rw [IntKind.wrap_u16, Int.tdiv_eq_ediv_of_nonneg (by omega), BitVec.toNat_udiv]
    have h1 : x.toNat / y.toNat ≤ x.toNat := Nat.div_le_self _ _
    have h2 := x.isLt
    simp only [Nat.reducePow] at h2
    rw [← Int.natCast_ediv]
    generalize x.toNat / y.toNat = q at *
    omega
  rw [h, Option.map_some]
theorem bin_rem_w16 (P : Program) (t : TypeId) (x y : BitVec 16) (hy : y ≠ 0#16) : aBin P .rem t (.p (w16 x)) (.p (w16 y)) = some (.p (w16 (x % y))) := by
  simp only [aBin, w16, vBin, isShift, vInt, Bool.false_eq_true, if_false, if_true, Option.map_some]
  have hn : ¬ ((y.toNat : Int) = 0) := fun h => hy (BitVec.eq_of_toNat_eq (by simpa using h))
  rw [if_neg hn]
  have h : ((x.toNat : Int).tmod y.toNat) = ((x % y).toNat : Int) := by
    rw [Int.tmod_eq_emod_of_nonneg (by omega), BitVec.toNat_umod, Int.natCast_emod]
  rw [h, Option.map_some]
theorem bin_shl_w16_i64 (P : Program) (t : TypeId) (x : BitVec 16) (n : Int) (hn : 0 ≤ n) : aBin P .shl t (.p (w16 x)) (.p (i64 n)) = some (.p (w16 (x <<< n.toNat))) := by
  simp only [aBin, w16, i64, vBin, isShift, vShift, if_true]
  rw [if_neg (by omega)]
  simp only [Option.map_some]
  have := bv_shl x n.toNat
  rw [IntKind.wrap_u16]
  exact congrArg (fun n => some (AV.p (PV.s (Value.int IntKind.u16 n)))) this
theorem bin_shr_w16_i64 (P : Program) (t : TypeId) (x : BitVec 16) (n : Int) (hn : 0 ≤ n) : aBin P .shr t (.p (w16 x)) (.p (i64 n)) = some (.p (w16 (x >>> n.toNat))) := by
  simp only [aBin, w16, i64, vBin, isShift, vShift, if_true]
  rw [if_neg (by omega)]
  simp only [Option.map_some]
  have := bv_shr x n.toNat
  exact congrArg (fun n => some (AV.p (PV.s (Value.int IntKind.u16 n)))) this
theorem bin_shl_w16_b8 (P : Program) (t : TypeId) (x : BitVec 16) (y : BitVec 8) : aBin P .shl t (.p (w16 x)) (.p (b8 y)) = some (.p (w16 (x <<< y.toNat))) := by
  simp only [aBin, w16, b8, vBin, isShift, vShift, if_true]
  rw [if_neg (by omega)]
  simp only [Option.map_some]
  rw [Int.toNat_natCast]
  have := bv_shl x y.toNat
  rw [IntKind.wrap_u16]
  exact congrArg (fun n => some (AV.p (PV.s (Value.int IntKind.u16 n)))) this
theorem bin_shr_w16_b8 (P : Program) (t : TypeId) (x : BitVec 16) (y : BitVec 8) : aBin P .shr t (.p (w16 x)) (.p (b8 y)) = some (.p (w16 (x >>> y.toNat))) := by
  simp only [aBin, w16, b8, vBin, isShift, vShift, if_true]
  rw [if_neg (by omega)]
  simp only [Option.map_some]
  rw [Int.toNat_natCast]
  have := bv_shr x y.toNat
  exact congrArg (fun n => some (AV.p (PV.s (Value.int IntKind.u16 n)))) this
theorem bin_shl_w16_w16 (P : Program) (t : TypeId) (x : BitVec 16) (y : BitVec 16) : aBin P .shl t (.p (w16 x)) (.p (w16 y)) = some (.p (w16 (x <<< y.toNat))) := by
  simp only [aBin, w16, w16, vBin, isShift, vShift, if_true]
  rw [if_neg (by omega)]
  simp only [Option.map_some]
  rw [Int.toNat_natCast]
  have := bv_shl x y.toNat
  rw [IntKind.wrap_u16]
  exact congrArg (fun n => some (AV.p (PV.s (Value.int IntKind.u16 n)))) this
theorem bin_shr_w16_w16 (P : Program) (t : TypeId) (x : BitVec 16) (y : BitVec 16) : aBin P .shr t (.p (w16 x)) (.p (w16 y)) = some (.p (w16 (x >>> y.toNat))) := by
  simp only [aBin, w16, w16, vBin, isShift, vShift, if_true]
  rw [if_neg (by omega)]
  simp only [Option.map_some]
  rw [Int.toNat_natCast]
  have := bv_shr x y.toNat
  exact congrArg (fun n => some (AV.p (PV.s (Value.int IntKind.u16 n)))) this
theorem bin_shl_w16_w32 (P : Program) (t : TypeId) (x : BitVec 16) (y : BitVec 32) : aBin P .shl t (.p (w16 x)) (.p (w32 y)) = some (.p (w16 (x <<< y.toNat))) := by
  simp only [aBin, w16, w32, vBin, isShift, vShift, if_true]
  rw [if_neg (by omega)]
  simp only [Option.map_some]
  rw [Int.toNat_natCast]
  have := bv_shl x y.toNat
  rw [IntKind.wrap_u16]
  exact congrArg (fun n => some (AV.p (PV.s (Value.int IntKind.u16 n)))) this
theorem bin_shr_w16_w32 (P : Program) (t : TypeId) (x : BitVec 16) (y : BitVec 32) : aBin P .shr t (.p (w16 x)) (.p (w32 y)) = some (.p (w16 (x >>> y.toNat))) := by
  simp only [aBin, w16, w32, vBin, isShift, vShift, if_true]
  rw [if_neg (by omega)]
  simp only [Option.map_some]
  rw [Int.toNat_natCast]
  have := bv_shr x y.toNat
  exact congrArg (fun n => some (AV.p (PV.s (Value.int IntKind.u16 n)))) this
theorem bin_shl_w16_w64 (P : Program) (t : TypeId) (x : BitVec 16) (y : BitVec 64) : aBin P .shl t (.p (w16 x)) (.p (w64 y)) = some (.p (w16 (x <<< y.toNat))) := by
  simp only [aBin, w16, w64, vBin, isShift, vShift, if_true]
  rw [if_neg (by omega)]
  simp only [Option.map_some]
  rw [Int.toNat_natCast]
  have := bv_shl x y.toNat
  rw [IntKind.wrap_u16]
  exact congrArg (fun n => some (AV.p (PV.s (Value.int IntKind.u16 n)))) this
theorem bin_shr_w16_w64 (P : Program) (t : TypeId) (x : BitVec 16) (y : BitVec 64) : aBin P .shr t (.p (w16 x)) (.p (w64 y)) = some (.p (w16 (x >>> y.toNat))) := by
  simp only [aBin, w16, w64, vBin, isShift, vShift, if_true]
  rw [if_neg (by omega)]
  simp only [Option.map_some]
  rw [Int.toNat_natCast]
  have := bv_shr x y.toNat
  exact congrArg (fun n => some (AV.p (PV.s (Value.int IntKind.u16 n)))) this
theorem un_xor_w16 (x : BitVec 16) : aUn .xor (.p (w16 x)) = some (.p (w16 (~~~x))) := by
  have h1 : BitVec.ofInt IntKind.u16.bits (x.toNat : Int) = x := bv_ofInt x
  have h2 : BitVec.ofInt IntKind.u16.bits (if IntKind.u16.signed then -1 else IntKind.u16.max) = BitVec.allOnes 16 := by rfl
  simp only [aUn, w16, vUn, Option.map_some, h1, h2]
  have h : IntKind.u16.wrap (((BitVec.allOnes 16 ^^^ x).toNat : Nat) : Int) = ((~~~x).toNat : Int) := by
    rw [BitVec.allOnes_xor]
    rw [IntKind.wrap_u16]; have := (~~~x).isLt; simp only [Nat.reducePow] at this; omega
  exact congrArg (fun n => some (AV.p (PV.s (Value.int IntKind.u16 n)))) h
theorem un_neg_w16 (x : BitVec 16) : aUn .neg (.p (w16 x)) = some (.p (w16 (-x))) := by
  simp only [aUn, w16, vUn, Option.map_some]
  have h : IntKind.u16.wrap (0 - (x.toNat : Int)) = ((-x).toNat : Int) := by
    rw [IntKind.wrap_u16, BitVec.toNat_neg]; have := x.isLt; simp only [Nat.reducePow] at *; omega
  rw [h]
theorem bin_add_w32 (P : Program) (t : TypeId) (x y : BitVec 32) : aBin P .add t (.p (w32 x)) (.p (w32 y)) = some (.p (w32 (x + y))) := by
  simp only [aBin, w32, vBin, isShift, vInt, Bool.false_eq_true, if_false, if_true, Option.map_some]
  have h : ((x.toNat : Int) + y.toNat) % 4294967296 = ((x + y).toNat : Int) := by
    rw [BitVec.toNat_add]; simp only [Nat.reducePow]; omega
  rw [IntKind.wrap_u32', h]
theorem bin_sub_w32 (P : Program) (t : TypeId) (x y : BitVec 32) : aBin P .sub t (.p (w32 x)) (.p (w32 y)) = some (.p (w32 (x - y))) := by
  simp only [aBin, w32, vBin, isShift, vInt, Bool.false_eq_true, if_false, if_true, Option.map_some]
  have h : ((x.toNat : Int) - y.toNat) % 4294967296 = ((x - y).toNat : Int) := by
    rw [BitVec.toNat_sub]; have := x.isLt; have := y.isLt; simp only [Nat.reducePow] at *; omega
  rw [IntKind.wrap_u32', h]
theorem bin_mul_w32 (P : Program) (t : TypeId) (x y : BitVec 32) : aBin P .mul t (.p (w32 x)) (.p (w32 y)) = some (.p (w32 (x * y))) := by
  simp only [aBin, w32, vBin, isShift, vInt, Bool.false_eq_true, if_false, if_true, Option.map_some]
  have h : ((x.toNat : Int) * y.toNat) % 4294967296 = ((x * y).toNat : Int) := by
    rw [BitVec.toNat_mul, Int.natCast_emod, Int.natCast_mul]; rfl
  rw [IntKind.wrap_u32', h]
theorem bin_and_w32 (P : Program) (t : TypeId) (x y : BitVec 32) : aBin P .and t (.p (w32 x)) (.p (w32 y)) = some (.p (w32 (x &&& y))) := by
  simp only [aBin, w32, vBin, isShift, vInt, Bool.false_eq_true, if_false, if_true, Option.map_some]
  have h : IntKind.u32.wrap (((x &&& y).toNat : Nat) : Int) = (((x &&& y).toNat : Nat) : Int) := by
    rw [IntKind.wrap_u32']; have := (x &&& y).isLt; simp only [Nat.reducePow] at this; omega
  have h1 : BitVec.ofInt IntKind.u32.bits (x.toNat : Int) = x := bv_ofInt x
  have h2 : BitVec.ofInt IntKind.u32.bits (y.toNat : Int) = y := bv_ofInt y
  rw [h1, h2]
  exact congrArg (fun n => some (AV.p (PV.s (Value.int IntKind.u32 n)))) h
theorem bin_or_w32 (P : Program) (t : TypeId) (x y : BitVec 32) : aBin P .or t (.p (w32 x)) (.p (w32 y)) = some (.p (w32 (x ||| y))) := by
  simp only [aBin, w32, vBin, isShift, vInt, Bool.false_eq_true, if_false, if_true, Option.map_some]
  have h : IntKind.u32.wrap (((x ||| y).toNat : Nat) : Int) = (((x ||| y).toNat : Nat) : Int) := by
    rw [IntKind.wrap_u32']; have := (x ||| y).isLt; simp only [Nat.reducePow] at this; omega
  have h1 : BitVec.ofInt IntKind.u32.bits (x.toNat : Int) = x := bv_ofInt x
  have h2 : BitVec.ofInt IntKind.u32.bits (y.toNat : Int) = y := bv_ofInt y
  rw [h1, h2]
  exact congrArg (fun n => some (AV.p (PV.s (Value.int IntKind.u32 n)))) h
theorem bin_xor_w32 (P : Program) (t : TypeId) (x y : BitVec 32) : aBin P .xor t (.p (w32 x)) (.p (w32 y)) = some (.p (w32 (x ^^^ y))) := by
  simp only [aBin, w32, vBin, isShift, vInt, Bool.false_eq_true, if_false, if_true, Option.map_some]
  have h : IntKind.u32.wrap (((x ^^^ y).toNat : Nat) : Int) = (((x ^^^ y).toNat : Nat) : Int) := by
    rw [IntKind.wrap_u32']; have := (x ^^^ y).isLt; simp only [Nat.reducePow] at this; omega
  have h1 : BitVec.ofInt IntKind.u32.bits (x.toNat : Int) = x := bv_ofInt x
  have h2 : BitVec.ofInt IntKind.u32.bits (y.toNat : Int) = y := bv_ofInt y
  rw [h1, h2]
  exact congrArg (fun n => some (AV.p (PV.s (Value.int IntKind.u32 n)))) h
theorem bin_andNot_w32 (P : Program) (t : TypeId) (x y : BitVec 32) : aBin P .andNot t (.p (w32 x)) (.p (w32 y)) = some (.p (w32 (x &&& ~~~y))) := by
  simp only [aBin, w32, vBin, isShift, vInt, Bool.false_eq_true, if_false, if_true, Option.map_some]
  have h : IntKind.u32.wrap (((x &&& ~~~y).toNat : Nat) : Int) = (((x &&& ~~~y).toNat : Nat) : Int) := by
    rw [IntKind.wrap_u32']; have := (x &&& ~~~y).isLt; simp only [Nat.reducePow] at this; omega
  have h1 : BitVec.ofInt IntKind.u32.bits (x.toNat : Int) = x := bv_ofInt x
  have h2 : BitVec.ofInt IntKind.u32.bits (y.toNat : Int) = y := bv_ofInt y
  rw [h1, h2]
  exact congrArg (fun n => some (AV.p (PV.s (Value.int IntKind.u32 n)))) h
theorem bin_eql_w32 (P : Program) (t : TypeId) (x y : BitVec 32) : aBin P .eql t (.p (w32 x)) (.p (w32 y)) = some (.p (bo (x == y))) := by
  simp only [aBin, w32, vBin, isShift, vInt, Bool.false_eq_true, if_false, if_true, Option.map_some]
  have h : ((x.toNat : Int) == (y.toNat : Int)) = (x == y) := by
    rw [Bool.eq_iff_iff]; simp only [beq_iff_eq, Int.ofNat_inj]; exact BitVec.toNat_inj
  simp only [bo, bne, h]
theorem bin_neq_w32 (P : Program) (t : TypeId) (x y : BitVec 32) : aBin P .neq t (.p (w32 x)) (.p (w32 y)) = some (.p (bo (x != y))) := by
  simp only [aBin, w32, vBin, isShift, vInt, Bool.false_eq_true, if_false, if_true, Option.map_some]
  have h : ((x.toNat : Int) == (y.toNat : Int)) = (x == y) := by
    rw [Bool.eq_iff_iff]; simp only [beq_iff_eq, Int.ofNat_inj]; exact BitVec.toNat_inj
  simp only [bo, bne, h]
theorem bin_lss_w32 (P : Program) (t : TypeId) (x y : BitVec 32) : aBin P .lss t (.p (w32 x)) (.p (w32 y)) = some (.p (bo (decide (x < y)))) := by
  simp only [aBin, w32, vBin, isShift, vInt, Bool.false_eq_true, if_false, if_true, Option.map_some]
  simp only [bo, BitVec.lt_def, BitVec.le_def, gt_iff_lt, ge_iff_le, Int.ofNat_lt, Int.ofNat_le]
theorem bin_leq_w32 (P : Program) (t : TypeId) (x y : BitVec 32) : aBin P .leq t (.p (w32 x)) (.p (w32 y)) = some (.p (bo (decide (x ≤ y)))) := by
  simp only [aBin, w32, vBin, isShift, vInt, Bool.false_eq_true, if_false, if_true, Option.map_some]
  simp only [bo, BitVec.lt_def, BitVec.le_def, gt_iff_lt, ge_iff_le, Int.ofNat_lt, Int.ofNat_le]
theorem bin_gtr_w32 (P : Program) (t : TypeId) (x y : BitVec 32) : aBin P .gtr t (.p (w32 x)) (.p (w32 y)) = some (.p (bo (decide (y < x)))) := by
  simp only [aBin, w32, vBin, isShift, vInt, Bool.false_eq_true, if_false, if_true, Option.map_some]
  simp only [bo, BitVec.lt_def, BitVec.le_def, gt_iff_lt, ge_iff_le, Int.ofNat_lt, Int.ofNat_le]
theorem bin_geq_w32 (P : Program) (t : TypeId) (x y : BitVec 32) : aBin P .geq t (.p (w32 x)) (.p (w32 y)) = some (.p (bo (decide (y ≤ x)))) := by
  simp only [aBin, w32, vBin, isShift, vInt, Bool.false_eq_true, if_false, if_true, Option.map_some]
  simp only [bo, BitVec.lt_def, BitVec.le_def, gt_iff_lt, ge_iff_le, Int.ofNat_lt, Int.ofNat_le]
theorem bin_quo_w32 (P : Program) (t : TypeId) (x y : BitVec 32) (hy : y ≠ 0#32) : aBin P .quo t (.p (w32 x)) (.p (w32 y)) = some (.p (w32 (x / y))) := by
  simp only [aBin, w32, vBin, isShift, vInt, Bool.false_eq_true, if_false, if_true, Option.map_some]
  have hn : ¬ ((y.toNat : Int) = 0) := fun h => hy (BitVec.eq_of_toNat_eq (by simpa using h))
  rw [if_neg hn]
  have h : IntKind.u32.wrap ((x.toNat : Int).tdiv y.toNat) = ((x / y).toNat : Int) := by
    rw [IntKind.wrap_u32', Int.tdiv_eq_ediv_of_nonneg (by omega), BitVec.toNat_udiv]
    have h1 : x.toNat / y.toNat ≤ x.toNat := Nat.div_le_self _ _
    have h2 := x.isLt
    simp only [Nat.reducePow] at h2
    rw [← Int.natCast_ediv]
    generalize x.toNat / y.toNat = q at *
    omega
  rw [h, Option.map_some]
theorem bin_rem_w32 (P : Program) (t : TypeId) (x y : BitVec 32) (hy : y ≠ 0#32) : aBin P .rem t (.p (w32 x)) (.p (w32 y)) = some (.p (w32 (x % y))) := by
  simp only [aBin, w32, vBin, isShift, vInt, Bool.false_eq_true, if_false, if_true, Option.map_some]
  have hn : ¬ ((y.toNat : Int) = 0) := fun h => hy (BitVec.eq_of_toNat_eq (by simpa using h))
  rw [if_neg hn]
  have h : ((x.toNat : Int).tmod y.toNat) = ((x % y).toNat : Int) := by
    rw [Int.tmod_eq_emod_of_nonneg (by omega), BitVec.toNat_umod, Int.natCast_emod]
  rw [h, Option.map_some]
theorem bin_shl_w32_i64 (P : Program) (t : TypeId) (x : BitVec 32) (n : Int) (hn : 0 ≤ n) : aBin P .shl t (.p (w32 x)) (.p (i64 n)) = some (.p (w32 (x <<< n.toNat))) := by
  simp only [aBin, w32, i64, vBin, isShift, vShift, if_true]
  rw [if_neg (by omega)]
  simp only [Option.map_some]
  have := bv_shl x n.toNat
  rw [IntKind.wrap_u32']
  exact congrArg (fun n => some (AV.p (PV.s (Value.int IntKind.u32 n)))) this
theorem bin_shr_w32_i64 (P : Program) (t : TypeId) (x : BitVec 32) (n : Int) (hn : 0 ≤ n) : aBin P .shr t (.p (w32 x)) (.p (i64 n)) = some (.p (w32 (x >>> n.toNat))) := by
  simp only [aBin, w32, i64, vBin, isShift, vShift, if_true]
  rw [if_neg (by omega)]
  simp only [Option.map_some]
  have := bv_shr x n.toNat
  exact congrArg (fun n => some (AV.p (PV.s (Value.int IntKind.u32 n)))) this
theorem bin_shl_w32_b8 (P : Program) (t : TypeId) (x : BitVec 32) (y : BitVec 8) : aBin P .shl t (.p (w32 x)) (.p (b8 y)) = some (.p (w32 (x <<< y.toNat))) := by
  simp only [aBin, w32, b8, vBin, isShift, vShift, if_true]
  rw [if_neg (by omega)]
  simp only [Option.map_some]
  rw [Int.toNat_natCast]
  have := bv_shl x y.toNat
  rw [IntKind.wrap_u32']
  exact congrArg (fun n => some (AV.p (PV.s (Value.int IntKind.u32 n)))) this
theorem bin_shr_w32_b8 (P : Program) (t : TypeId) (x : BitVec 32) (y : BitVec 8) : aBin P .shr t (.p (w32 x)) (.p (b8 y)) = some (.p (w32 (x >>> y.toNat))) := by
  simp only [aBin, w32, b8, vBin, isShift, vShift, if_true]
  rw [if_neg (by omega)]
  simp only [Option.map_some]
  rw [Int.toNat_natCast]
  have := bv_shr x y.toNat
  exact congrArg (fun n => some (AV.p (PV.s (Value.int IntKind.u32 n)))) this
theorem bin_shl_w32_w16 (P : Program) (t : TypeId) (x : BitVec 32) (y : BitVec 16) : aBin P .shl t (.p (w32 x)) (.p (w16 y)) = some (.p (w32 (x <<< y.toNat))) := by
  simp only [aBin, w32, w16, vBin, isShift, vShift, if_true]
  rw [if_neg (by omega)]
  simp only [Option.map_some]
  rw [Int.toNat_natCast]
  have := bv_shl x y.toNat
  rw [IntKind.wrap_u32']
  exact congrArg (fun n => some (AV.p (PV.s (Value.int IntKind.u32 n)))) this
theorem bin_shr_w32_w16 (P : Program) (t : TypeId) (x : BitVec 32) (y : BitVec 16) : aBin P .shr t (.p (w32 x)) (.p (w16 y)) = some (.p (w32 (x >>> y.toNat))) := by
  simp only [aBin, w32, w16, vBin, isShift, vShift, if_true]
  rw [if_neg (by omega)]
  simp only [Option.map_some]
  rw [Int.toNat_natCast]
  have := bv_shr x y.toNat
  exact congrArg (fun n => some (AV.p (PV.s (Value.int IntKind.u32 n)))) this
theorem bin_shl_w32_w32 (P : Program) (t : TypeId) (x : BitVec 32) (y : BitVec 32) : aBin P .shl t (.p (w32 x)) (.p (w32 y)) = some (.p (w32 (x <<< y.toNat))) := by
  simp only [aBin, w32, w32, vBin, isShift, vShift, if_true]
  rw [if_neg (by omega)]
  simp only [Option.map_some]
  rw [Int.toNat_natCast]
  have := bv_shl x y.toNat
  rw [IntKind.wrap_u32']
  exact congrArg (fun n => some (AV.p (PV.s (Value.int IntKind.u32 n)))) this
theorem bin_shr_w32_w32 (P : Program) (t : TypeId) (x : BitVec 32) (y : BitVec 32) : aBin P .shr t (.p (w32 x)) (.p (w32 y)) = some (.p (w32 (x >>> y.toNat))) := by
  simp only [aBin, w32, w32, vBin, isShift, vShift, if_true]
  rw [if_neg (by omega)]
  simp only [Option.map_some]
  rw [Int.toNat_natCast]
  have := bv_shr x y.toNat
  exact congrArg (fun n => some (AV.p (PV.s (Value.int IntKind.u32 n)))) this
theorem bin_shl_w32_w64 (P : Program) (t : TypeId) (x : BitVec 32) (y : BitVec 64) : aBin P .shl t (.p (w32 x)) (.p (w64 y)) = some (.p (w32 (x <<< y.toNat))) := by
  simp only [aBin, w32, w64, vBin, isShift, vShift, if_true]
  rw [if_neg (by omega)]
  simp only [Option.map_some]
  rw [Int.toNat_natCast]
  have := bv_shl x y.toNat
  rw [IntKind.wrap_u32']
  exact congrArg (fun n => some (AV.p (PV.s (Value.int IntKind.u32 n)))) this
theorem bin_shr_w32_w64 (P : Program) (t : TypeId) (x : BitVec 32) (y : BitVec 64) : aBin P .shr t (.p (w32 x)) (.p (w64 y)) = some (.p (w32 (x >>> y.toNat))) := by
  simp only [aBin, w32, w64, vBin, isShift, vShift, if_true]
  rw [if_neg (by omega)]
  simp only [Option.map_some]
  rw [Int.toNat_natCast]
  have := bv_shr x y.toNat
  exact congrArg (fun n => some (AV.p (PV.s (Value.int IntKind.u32 n)))) this
theorem un_xor_w32 (x : BitVec 32) : aUn .xor (.p (w32 x)) = some (.p (w32 (~~~x))) := by
  have h1 : BitVec.ofInt IntKind.u32.bits (x.toNat : Int) = x := bv_ofInt x
  have h2 : BitVec.ofInt IntKind.u32.bits (if IntKind.u32.signed then -1 else IntKind.u32.max) = BitVec.allOnes 32 := by rfl
  simp only [aUn, w32, vUn, Option.map_some, h1, h2]
  have h : IntKind.u32.wrap (((BitVec.allOnes 32 ^^^ x).toNat : Nat) : Int) = ((~~~x).toNat : Int) := by
    rw [BitVec.allOnes_xor]
    rw [IntKind.wrap_u32']; have := (~~~x).isLt; simp only [Nat.reducePow] at this; omega
  exact congrArg (fun n => some (AV.p (PV.s (Value.int IntKind.u32 n)))) h
theorem un_neg_w32 (x : BitVec 32) : aUn .neg (.p (w32 x)) = some (.p (w32 (-x))) := by
  simp only [aUn, w32, vUn, Option.map_some]
  have h : IntKind.u32.wrap (0 - (x.toNat : Int)) = ((-x).toNat : Int) := by
    rw [IntKind.wrap_u32', BitVec.toNat_neg]; have := x.isLt; simp only [Nat.reducePow] at *; omega
  rw [h]
theorem bin_add_w64 (P : Program) (t : TypeId) (x y : BitVec 64) : aBin P .add t (.p (w64 x)) (.p (w64 y)) = some (.p (w64 (x + y))) := by
  simp only [aBin, w64, vBin, isShift, vInt, Bool.false_eq_true, if_false, if_true, Option.map_some]
  have h : ((x.toNat : Int) + y.toNat) % 18446744073709551616 = ((x + y).toNat : Int) := by
    rw [BitVec.toNat_add]; simp only [Nat.reducePow]; omega
  rw [IntKind.wrap_u64, h]
theorem bin_sub_w64 (P : Program) (t : TypeId) (x y : BitVec 64) : aBin P .sub t (.p (w64 x)) (.p (w64 y)) = some (.p (w64 (x - y))) := by
  simp only [aBin, w64, vBin, isShift, vInt, Bool.false_eq_true, if_false, if_true, Option.map_some]
  have h : ((x.toNat : Int) - y.toNat) % 18446744073709551616 = ((x - y).toNat : Int) := by
    rw [BitVec.toNat_sub]; have := x.isLt; have := y.isLt; simp only [Nat.reducePow] at *; omega
  rw [IntKind.wrap_u64, h]
theorem bin_mul_w64 (P : Program) (t : TypeId) (x y : BitVec 64) : aBin P .mul t (.p (w64 x)) (.p (w64 y)) = some (.p (w64 (x * y))) := by
  simp only [aBin, w64, vBin, isShift, vInt, Bool.false_eq_true, if_false, if_true, Option.map_some]
  have h : ((x.toNat : Int) * y.toNat) % 18446744073709551616 = ((x * y).toNat : Int) := by
    rw [BitVec.toNat_mul, Int.natCast_emod, Int.natCast_mul]; rfl
  rw [IntKind.wrap_u64, h]
theorem bin_and_w64 (P : Program) (t : TypeId) (x y : BitVec 64) : aBin P .and t (.p (w64 x)) (.p (w64 y)) = some (.p (w64 (x &&& y))) := by
  simp only [aBin, w64, vBin, isShift, vInt, Bool.false_eq_true, if_false, if_true, Option.map_some]
  have h : IntKind.u64.wrap (((x &&& y).toNat : Nat) : Int) = (((x &&& y).toNat : Nat) : Int) := by
    rw [IntKind.wrap_u64]; have := (x &&& y).isLt; simp only [Nat.reducePow] at this; omega
  have h1 : BitVec.ofInt IntKind.u64.bits (x.toNat : Int) = x := bv_ofInt x
  have h2 : BitVec.ofInt IntKind.u64.bits (y.toNat : Int) = y := bv_ofInt y
  rw [h1, h2]
  exact congrArg (fun n => some (AV.p (PV.s (Value.int IntKind.u64 n)))) h
theorem bin_or_w64 (P : Program) (t : TypeId) (x y : BitVec 64) : aBin P .or t (.p (w64 x)) (.p (w64 y)) = some (.p (w64 (x ||| y))) := by
  simp only [aBin, w64, vBin, isShift, vInt, Bool.false_eq_true, if_false, if_true, Option.map_some]
  have h : IntKind.u64.wrap (((x ||| y).toNat : Nat) : Int) = (((x ||| y).toNat : Nat) : Int) := by
    rw [IntKind.wrap_u64]; have := (x ||| y).isLt; simp only [Nat.reducePow] at this; omega
  have h1 : BitVec.ofInt IntKind.u64.bits (x.toNat : Int) = x := bv_ofInt x
  have h2 : BitVec.ofInt IntKind.u64.bits (y.toNat : Int) = y := bv_ofInt y
  rw [h1, h2]
  exact congrArg (fun n => some (AV.p (PV.s (Value.int IntKind.u64 n)))) h
theorem bin_xor_w64 (P : Program) (t : TypeId) (x y : BitVec 64) : aBin P .xor t (.p (w64 x)) (.p (w64 y)) = some (.p (w64 (x ^^^ y))) := by
  simp only [aBin, w64, vBin, isShift, vInt, Bool.false_eq_true, if_false, if_true, Option.map_some]
  have h : IntKind.u64.wrap (((x ^^^ y).toNat : Nat) : Int) = (((x ^^^ y).toNat : Nat) : Int) := by
    rw [IntKind.wrap_u64]; have := (x ^^^ y).isLt; simp only [Nat.reducePow] at this; omega
  have h1 : BitVec.ofInt IntKind.u64.bits (x.toNat : Int) = x := bv_ofInt x
  have h2 : BitVec.ofInt IntKind.u64.bits (y.toNat : Int) = y := bv_ofInt y
  rw [h1, h2]
  exact congrArg (fun n => some (AV.p (PV.s (Value.int IntKind.u64 n)))) h
theorem bin_andNot_w64 (P : Program) (t : TypeId) (x y : BitVec 64) : aBin P .andNot t (.p (w64 x)) (.p (w64 y)) = some (.p (w64 (x &&& ~~~y))) := by
  simp only [aBin, w64, vBin, isShift, vInt, Bool.false_eq_true, if_false, if_true, Option.map_some]
  have h : IntKind.u64.wrap (((x &&& ~~~y).toNat : Nat) : Int) = (((x &&& ~~~y).toNat : Nat) : Int) := by
    rw [IntKind.wrap_u64]; have := (x &&& ~~~y).isLt; simp only [Nat.reducePow] at this; omega
  have h1 : BitVec.ofInt IntKind.u64.bits (x.toNat : Int) = x := bv_ofInt x
  have h2 : BitVec.ofInt IntKind.u64.bits (y.toNat : Int) = y := bv_ofInt y
  rw [h1, h2]
  exact congrArg (fun n => some (AV.p (PV.s (Value.int IntKind.u64 n)))) h
theorem bin_eql_w64 (P : Program) (t : TypeId) (x y : BitVec 64) : aBin P .eql t (.p (w64 x)) (.p (w64 y)) = some (.p (bo (x == y))) := by
  simp only [aBin, w64, vBin, isShift, vInt, Bool.false_eq_true, if_false, if_true, Option.map_some]
  have h : ((x.toNat : Int) == (y.toNat : Int)) = (x == y) := by
    rw [Bool.eq_iff_iff]; simp only [beq_iff_eq, Int.ofNat_inj]; exact BitVec.toNat_inj
  simp only [bo, bne, h]
theorem bin_neq_w64 (P : Program) (t : TypeId) (x y : BitVec 64) : aBin P .neq t (.p (w64 x)) (.p (w64 y)) = some (.p (bo (x != y))) := by
  simp only [aBin, w64, vBin, isShift, vInt, Bool.false_eq_true, if_false, if_true, Option.map_some]
  have h : ((x.toNat : Int) == (y.toNat : Int)) = (x == y) := by
    rw [Bool.eq_iff_iff]; simp only [beq_iff_eq, Int.ofNat_inj]; exact BitVec.toNat_inj
  simp only [bo, bne, h]
theorem bin_lss_w64 (P : Program) (t : TypeId) (x y : BitVec 64) : aBin P .lss t (.p (w64 x)) (.p (w64 y)) = some (.p (bo (decide (x < y)))) := by
  simp only [aBin, w64, vBin, isShift, vInt, Bool.false_eq_true, if_false, if_true, Option.map_some]
  simp only [bo, BitVec.lt_def, BitVec.le_def, gt_iff_lt, ge_iff_le, Int.ofNat_lt, Int.ofNat_le]
theorem bin_leq_w64 (P : Program) (t : TypeId) (x y : BitVec 64) : aBin P .leq t (.p (w64 x)) (.p (w64 y)) = some (.p (bo (decide (x ≤ y)))) := by
  simp only [aBin, w64, vBin, isShift, vInt, Bool.false_eq_true, if_false, if_true, Option.map_some]
  simp only [bo, BitVec.lt_def, BitVec.le_def, gt_iff_lt, ge_iff_le, Int.ofNat_lt, Int.ofNat_le]
theorem bin_gtr_w64 (P : Program) (t : TypeId) (x y : BitVec 64) : aBin P .gtr t (.p (w64 x)) (.p (w64 y)) = some (.p (bo (decide (y < x)))) := by
  simp only [aBin, w64, vBin, isShift, vInt, Bool.false_eq_true, if_false, if_true, Option.map_some]
  simp only [bo, BitVec.lt_def, BitVec.le_def, gt_iff_lt, ge_iff_le, Int.ofNat_lt, Int.ofNat_le]
theorem bin_geq_w64 (P : Program) (t : TypeId) (x y : BitVec 64) : aBin P .geq t (.p (w64 x)) (.p (w64 y)) = some (.p (bo (decide (y ≤ x)))) := by
  simp only [aBin, w64, vBin, isShift, vInt, Bool.false_eq_true, if_false, if_true, Option.map_some]
  simp only [bo, BitVec.lt_def, BitVec.le_def, gt_iff_lt, ge_iff_le, Int.ofNat_lt, Int.ofNat_le]
theorem bin_quo_w64 (P : Program) (t : TypeId) (x y : BitVec 64) (hy : y ≠ 0#64) : aBin P .quo t (.p (w64 x)) (.p (w64 y)) = some (.p (w64 (x / y))) := by
  simp only [aBin, w64, vBin, isShift, vInt, Bool.false_eq_true, if_false, if_true, Option.map_some]
  have hn : ¬ ((y.toNat : Int) = 0) := fun h => hy (BitVec.eq_of_toNat_eq (by simpa using h))
  rw [if_neg hn]
  have h : IntKind.u64.wrap ((x.toNat : Int).tdiv y.toNat) = ((x / y).toNat : Int) := by
    rw [IntKind.wrap_u64, Int.tdiv_eq_ediv_of_nonneg (by omega), BitVec.toNat_udiv]
    have h1 : x.toNat / y.toNat ≤ x.toNat := Nat.div_le_self _ _
    have h2 := x.isLt
    simp only [Nat.reducePow] at h2
    rw [← Int.natCast_ediv]
    generalize x.toNat / y.toNat = q at *
    omega
  rw [h, Option.map_some]
theorem bin_rem_w64 (P : Program) (t : TypeId) (x y : BitVec 64) (hy : y ≠ 0#64) : aBin P .rem t (.p (w64 x)) (.p (w64 y)) = some (.p (w64 (x % y))) := by
  simp only [aBin, w64, vBin, isShift, vInt, Bool.false_eq_true, if_false, if_true, Option.map_some]
  have hn : ¬ ((y.toNat : Int) = 0) := fun h => hy (BitVec.eq_of_toNat_eq (by simpa using h))
  rw [if_neg hn]
  have h : ((x.toNat : Int).tmod y.toNat) = ((x % y).toNat : Int) := by
    rw [Int.tmod_eq_emod_of_nonneg (by omega), BitVec.toNat_umod, Int.natCast_emod]
  rw [h, Option.map_some]
theorem bin_shl_w64_i64 (P : Program) (t : TypeId) (x : BitVec 64) (n : Int) (hn : 0 ≤ n) : aBin P .shl t (.p (w64 x)) (.p (i64 n)) = some (.p (w64 (x <<< n.toNat))) := by
  simp only [aBin, w64, i64, vBin, isShift, vShift, if_true]
  rw [if_neg (by omega)]
  simp only [Option.map_some]
  have := bv_shl x n.toNat
  rw [IntKind.wrap_u64]
  exact congrArg (fun n => some (AV.p (PV.s (Value.int IntKind.u64 n)))) this
theorem bin_shr_w64_i64 (P : Program) (t : TypeId) (x : BitVec 64) (n : Int) (hn : 0 ≤ n) : aBin P .shr t (.p (w64 x)) (.p (i64 n)) = some (.p (w64 (x >>> n.toNat))) := by
  simp only [aBin, w64, i64, vBin, isShift, vShift, if_true]
  rw [if_neg (by omega)]
  simp only [Option.map_some]
  have := bv_shr x n.toNat
  exact congrArg (fun n => some (AV.p (PV.s (Value.int IntKind.u64 n)))) this
theorem bin_shl_w64_b8 (P : Program) (t : TypeId) (x : BitVec 64) (y : BitVec 8) : aBin P .shl t (.p (w64 x)) (.p (b8 y)) = some (.p (w64 (x <<< y.toNat))) := by
  simp only [aBin, w64, b8, vBin, isShift, vShift, if_true]
  rw [if_neg (by omega)]
  simp only [Option.map_some]
  rw [Int.toNat_natCast]
  have := bv_shl x y.toNat
  rw [IntKind.wrap_u64]
  exact congrArg (fun n => some (AV.p (PV.s (Value.int IntKind.u64 n)))) this
theorem bin_shr_w64_b8 (P : Program) (t : TypeId) (x : BitVec 64) (y : BitVec 8) : aBin P .shr t (.p (w64 x)) (.p (b8 y)) = some (.p (w64 (x >>> y.toNat))) := by
  simp only [aBin, w64, b8, vBin, isShift, vShift, if_true]
  rw [if_neg (by omega)]
  simp only [Option.map_some]
  rw [Int.toNat_natCast]
  have := bv_shr x y.toNat
  exact congrArg (fun n => some (AV.p (PV.s (Value.int IntKind.u64 n)))) this
theorem bin_shl_w64_w16 (P : Program) (t : TypeId) (x : BitVec 64) (y : BitVec 16) : aBin P .shl t (.p (w64 x)) (.p (w16 y)) = some (.p (w64 (x <<< y.toNat))) := by
  simp only [aBin, w64, w16, vBin, isShift, vShift, if_true]
  rw [if_neg (by omega)]
  simp only [Option.map_some]
  rw [Int.toNat_natCast]
  have := bv_shl x y.toNat
  rw [IntKind.wrap_u64]
  exact congrArg (fun n => some (AV.p (PV.s (Value.int IntKind.u64 n)))) this
theorem bin_shr_w64_w16 (P : Program) (t : TypeId) (x : BitVec 64) (y : BitVec 16) : aBin P .shr t (.p (w64 x)) (.p (w16 y)) = some (.p (w64 (x >>> y.toNat))) := by
  simp only [aBin, w64, w16, vBin, isShift, vShift, if_true]
  rw [if_neg (by omega)]
  simp only [Option.map_some]
  rw [Int.toNat_natCast]
  have := bv_shr x y.toNat
  exact congrArg (fun n => some (AV.p (PV.s (Value.int IntKind.u64 n)))) this
theorem bin_shl_w64_w32 (P : Program) (t : TypeId) (x : BitVec 64) (y : BitVec 32) : aBin P .shl t (.p (w64 x)) (.p (w32 y)) = some (.p (w64 (x <<< y.toNat))) := by
  simp only [aBin, w64, w32, vBin, isShift, vShift, if_true]
  rw [if_neg (by omega)]
  simp only [Option.map_some]
  rw [Int.toNat_natCast]
  have := bv_shl x y.toNat
  rw [IntKind.wrap_u64]
  exact congrArg (fun n => some (AV.p (PV.s (Value.int IntKind.u64 n)))) this
theorem bin_shr_w64_w32 (P : Program) (t : TypeId) (x : BitVec 64) (y : BitVec 32) : aBin P .shr t (.p (w64 x)) (.p (w32 y)) = some (.p (w64 (x >>> y.toNat))) := by
  simp only [aBin, w64, w32, vBin, isShift, vShift, if_true]
  rw [if_neg (by omega)]
  simp only [Option.map_some]
  rw [Int.toNat_natCast]
  have := bv_shr x y.toNat
  exact congrArg (fun n => some (AV.p (PV.s (Value.int IntKind.u64 n)))) this
theorem bin_shl_w64_w64 (P : Program) (t : TypeId) (x : BitVec 64) (y : BitVec 64) : aBin P .shl t (.p (w64 x)) (.p (w64 y)) = some (.p (w64 (x <<< y.toNat))) := by
  simp only [aBin, w64, w64, vBin, isShift, vShift, if_true]
  rw [if_neg (by omega)]
  simp only [Option.map_some]
  rw [Int.toNat_natCast]
  have := bv_shl x y.toNat
  rw [IntKind.wrap_u64]
  exact congrArg (fun n => some (AV.p (PV.s (Value.int IntKind.u64 n)))) this
theorem bin_shr_w64_w64 (P : Program) (t : TypeId) (x : BitVec 64) (y : BitVec 64) : aBin P .shr t (.p (w64 x)) (.p (w64 y)) = some (.p (w64 (x >>> y.toNat))) := by
  simp only [aBin, w64, w64, vBin, isShift, vShift, if_true]
  rw [if_neg (by omega)]
  simp only [Option.map_some]
  rw [Int.toNat_natCast]
  have := bv_shr x y.toNat
  exact congrArg (fun n => some (AV.p (PV.s (Value.int IntKind.u64 n)))) this
theorem un_xor_w64 (x : BitVec 64) : aUn .xor (.p (w64 x)) = some (.p (w64 (~~~x))) := by
  have h1 : BitVec.ofInt IntKind.u64.bits (x.toNat : Int) = x := bv_ofInt x
  have h2 : BitVec.ofInt IntKind.u64.bits (if IntKind.u64.signed then -1 else IntKind.u64.max) = BitVec.allOnes 64 := by rfl
  simp only [aUn, w64, vUn, Option.map_some, h1, h2]
  have h : IntKind.u64.wrap (((BitVec.allOnes 64 ^^^ x).toNat : Nat) : Int) = ((~~~x).toNat : Int) := by
    rw [BitVec.allOnes_xor]
    rw [IntKind.wrap_u64]; have := (~~~x).isLt; simp only [Nat.reducePow] at this; omega
  exact congrArg (fun n => some (AV.p (PV.s (Value.int IntKind.u64 n)))) h
theorem un_neg_w64 (x : BitVec 64) : aUn .neg (.p (w64 x)) = some (.p (w64 (-x))) := by
  simp only [aUn, w64, vUn, Option.map_some]
  have h : IntKind.u64.wrap (0 - (x.toNat : Int)) = ((-x).toNat : Int) := by
    rw [IntKind.wrap_u64, BitVec.toNat_neg]; have := x.isLt; simp only [Nat.reducePow] at *; omega
  rw [h]
theorem bin_add_i64 (P : Program) (t : TypeId) (x y : Int) : aBin P .add t (.p (i64 x)) (.p (i64 y)) = some (.p (i64 (IntKind.i64.wrap (x + y)))) := by simp only [aBin, i64, vBin, isShift, vInt, Bool.false_eq_true, if_false, if_true, Option.map_some, bo, gt_iff_lt, ge_iff_le]
theorem bin_sub_i64 (P : Program) (t : TypeId) (x y : Int) : aBin P .sub t (.p (i64 x)) (.p (i64 y)) = some (.p (i64 (IntKind.i64.wrap (x - y)))) := by simp only [aBin, i64, vBin, isShift, vInt, Bool.false_eq_true, if_false, if_true, Option.map_some, bo, gt_iff_lt, ge_iff_le]
theorem bin_mul_i64 (P : Program) (t : TypeId) (x y : Int) : aBin P .mul t (.p (i64 x)) (.p (i64 y)) = some (.p (i64 (IntKind.i64.wrap (x * y)))) := by simp only [aBin, i64, vBin, isShift, vInt, Bool.false_eq_true, if_false, if_true, Option.map_some, bo, gt_iff_lt, ge_iff_le]
theorem bin_eql_i64 (P : Program) (t : TypeId) (x y : Int) : aBin P .eql t (.p (i64 x)) (.p (i64 y)) = some (.p (bo (x == y))) := by simp only [aBin, i64, vBin, isShift, vInt, Bool.false_eq_true, if_false, if_true, Option.map_some, bo, gt_iff_lt, ge_iff_le]
theorem bin_neq_i64 (P : Program) (t : TypeId) (x y : Int) : aBin P .neq t (.p (i64 x)) (.p (i64 y)) = some (.p (bo (x != y))) := by simp only [aBin, i64, vBin, isShift, vInt, Bool.false_eq_true, if_false, if_true, Option.map_some, bo, gt_iff_lt, ge_iff_le]
theorem bin_lss_i64 (P : Program) (t : TypeId) (x y : Int) : aBin P .lss t (.p (i64 x)) (.p (i64 y)) = some (.p (bo (decide (x < y)))) := by simp only [aBin, i64, vBin, isShift, vInt, Bool.false_eq_true, if_false, if_true, Option.map_some, bo, gt_iff_lt, ge_iff_le]
theorem bin_leq_i64 (P : Program) (t : TypeId) (x y : Int) : aBin P .leq t (.p (i64 x)) (.p (i64 y)) = some (.p (bo (decide (x ≤ y)))) := by simp only [aBin, i64, vBin, isShift, vInt, Bool.false_eq_true, if_false, if_true, Option.map_some, bo, gt_iff_lt, ge_iff_le]
theorem bin_gtr_i64 (P : Program) (t : TypeId) (x y : Int) : aBin P .gtr t (.p (i64 x)) (.p (i64 y)) = some (.p (bo (decide (y < x)))) := by simp only [aBin, i64, vBin, isShift, vInt, Bool.false_eq_true, if_false, if_true, Option.map_some, bo, gt_iff_lt, ge_iff_le]
theorem bin_geq_i64 (P : Program) (t : TypeId) (x y : Int) : aBin P .geq t (.p (i64 x)) (.p (i64 y)) = some (.p (bo (decide (y ≤ x)))) := by simp only [aBin, i64, vBin, isShift, vInt, Bool.false_eq_true, if_false, if_true, Option.map_some, bo, gt_iff_lt, ge_iff_le]
theorem bin_quo_i64 (P : Program) (t : TypeId) (x y : Int) (hx : 0 ≤ x) (hy : 0 < y) (hb : x ≤ 9223372036854775807) : aBin P .quo t (.p (i64 x)) (.p (i64 y)) = some (.p (i64 (x / y))) := by
  simp only [aBin, i64, vBin, isShift, vInt, Bool.false_eq_true, if_false, if_true]
  rw [if_neg (by omega), Int.tdiv_eq_ediv_of_nonneg hx]
  have h1 : x / y ≤ x := Int.ediv_le_self _ hx
  have h2 : 0 ≤ x / y := Int.ediv_nonneg hx (by omega)
  rw [wrap_lo (by omega) (by omega), Option.map_some]
theorem bin_rem_i64 (P : Program) (t : TypeId) (x y : Int) (hx : 0 ≤ x) (hy : 0 < y) : aBin P .rem t (.p (i64 x)) (.p (i64 y)) = some (.p (i64 (x % y))) := by
  simp only [aBin, i64, vBin, isShift, vInt, Bool.false_eq_true, if_false, if_true]
  rw [if_neg (by omega), Int.tmod_eq_emod_of_nonneg hx, Option.map_some]
theorem bin_shl_i64 (P : Program) (t : TypeId) (x y : Int) (hy : 0 ≤ y) (h63 : y ≤ 63) : aBin P .shl t (.p (i64 x)) (.p (i64 y)) = some (.p (i64 (IntKind.i64.wrap (x * 2 ^ y.toNat)))) := by
  have hm : min y.toNat IntKind.i64.bits = y.toNat := by simp only [IntKind.bits]; omega
  simp only [aBin, i64, vBin, isShift, vShift, if_true, hm]
  rw [if_neg (by omega)]; rfl
theorem bin_shr_i64 (P : Program) (t : TypeId) (x y : Int) (hy : 0 ≤ y) (h63 : y ≤ 63) : aBin P .shr t (.p (i64 x)) (.p (i64 y)) = some (.p (i64 (x / 2 ^ y.toNat))) := by
  have hm : min y.toNat IntKind.i64.bits = y.toNat := by simp only [IntKind.bits]; omega
  simp only [aBin, i64, vBin, isShift, vShift, if_true, hm]
  rw [if_neg (by omega)]
  simp only [Option.map_some, Int.fdiv_eq_ediv_of_nonneg _ (Int.pow_nonneg (by decide : (0 : Int) ≤ 2))]
theorem un_neg_i64 (x : Int) : aUn .neg (.p (i64 x)) = some (.p (i64 (IntKind.i64.wrap (0 - x)))) := rfl
theorem un_not_bo (b : Bool) : aUn .not (.p (bo b)) = some (.p (bo (!b))) := rfl
theorem bin_eql_str (P : Program) (t : TypeId) (x y : ByteArray) : aBin P .eql t (.p (str x)) (.p (str y)) = some (.p (bo (x.toList == y.toList))) := rfl
theorem bin_neq_str (P : Program) (t : TypeId) (x y : ByteArray) : aBin P .neq t (.p (str x)) (.p (str y)) = some (.p (bo (!(x.toList == y.toList)))) := rfl
theorem bin_eql_bo (P : Program) (t : TypeId) (x y : Bool) (h : isBool P t = true) : aBin P .eql t (.p (bo x)) (.p (bo y)) = some (.p (bo (x == y))) := by simp only [aBin, bo, vBin, h, if_true, Option.map_some]
theorem bin_neq_bo (P : Program) (t : TypeId) (x y : Bool) (h : isBool P t = true) : aBin P .neq t (.p (bo x)) (.p (bo y)) = some (.p (bo (!(x == y)))) := by simp only [aBin, bo, vBin, h, if_true, Option.map_some]

def isIntT (P : Program) (t : TypeId) : Bool := match P.underlying t with | some (.int _) => true | _ => false
theorem isIntT_inv {P : Program} {t : TypeId} (h : isIntT P t = true) : ∃ k, P.underlying t = some (.int k) := by
  unfold isIntT at h
  split at h
  · rename_i k hk; exact ⟨k, hk⟩
  · cases h

theorem conv_b8_b8 (P : Program) (H : Hp) (s d : TypeId) (x : BitVec 8) (hs : isIntT P s = true) (hd : P.underlying d = some (.int .u8)) : aConv P H s d (.p (b8 x)) = some (.p (b8 (x.setWidth 8))) := by
  obtain ⟨k, hk⟩ := isIntT_inv hs
  have h : ((x.toNat : Int) % 256) = ((x.setWidth 8).toNat : Int) := by rw [BitVec.toNat_setWidth]; simp only [Nat.reducePow]; omega
  simp only [aConv, hk, hd, Option.isSome_some, if_true, b8, vConv, Option.map_some, IntKind.wrap_u8, h, b8]
theorem conv_b8_w16 (P : Program) (H : Hp) (s d : TypeId) (x : BitVec 8) (hs : isIntT P s = true) (hd : P.underlying d = some (.int .u16)) : aConv P H s d (.p (b8 x)) = some (.p (w16 (x.setWidth 16))) := by
  obtain ⟨k, hk⟩ := isIntT_inv hs
  have h : ((x.toNat : Int) % 65536) = ((x.setWidth 16).toNat : Int) := by rw [BitVec.toNat_setWidth]; simp only [Nat.reducePow]; omega
  simp only [aConv, hk, hd, Option.isSome_some, if_true, b8, vConv, Option.map_some, IntKind.wrap_u16, h, w16]
theorem conv_b8_w32 (P : Program) (H : Hp) (s d : TypeId) (x : BitVec 8) (hs : isIntT P s = true) (hd : P.underlying d = some (.int .u32)) : aConv P H s d (.p (b8 x)) = some (.p (w32 (x.setWidth 32))) := by
  obtain ⟨k, hk⟩ := isIntT_inv hs
  have h : ((x.toNat : Int) % 4294967296) = ((x.setWidth 32).toNat : Int) := by rw [BitVec.toNat_setWidth]; simp only [Nat.reducePow]; omega
  simp only [aConv, hk, hd, Option.isSome_some, if_true, b8, vConv, Option.map_some, IntKind.wrap_u32', h, w32]
theorem conv_b8_w64 (P : Program) (H : Hp) (s d : TypeId) (x : BitVec 8) (hs : isIntT P s = true) (hd : P.underlying d = some (.int .u64)) : aConv P H s d (.p (b8 x)) = some (.p (w64 (x.setWidth 64))) := by
  obtain ⟨k, hk⟩ := isIntT_inv hs
  have h : ((x.toNat : Int) % 18446744073709551616) = ((x.setWidth 64).toNat : Int) := by rw [BitVec.toNat_setWidth]; simp only [Nat.reducePow]; omega
  simp only [aConv, hk, hd, Option.isSome_some, if_true, b8, vConv, Option.map_some, IntKind.wrap_u64, h, w64]
theorem conv_b8_i64 (P : Program) (H : Hp) (s d : TypeId) (x : BitVec 8) (hs : isIntT P s = true) (hd : P.underlying d = some (.int .i64)) : aConv P H s d (.p (b8 x)) = some (.p (i64 (IntKind.i64.wrap x.toNat))) := by
  obtain ⟨k, hk⟩ := isIntT_inv hs
  simp only [aConv, hk, hd, Option.isSome_some, if_true, b8, vConv, Option.map_some, i64]
theorem conv_w16_b8 (P : Program) (H : Hp) (s d : TypeId) (x : BitVec 16) (hs : isIntT P s = true) (hd : P.underlying d = some (.int .u8)) : aConv P H s d (.p (w16 x)) = some (.p (b8 (x.setWidth 8))) := by
  obtain ⟨k, hk⟩ := isIntT_inv hs
  have h : ((x.toNat : Int) % 256) = ((x.setWidth 8).toNat : Int) := by rw [BitVec.toNat_setWidth]; simp only [Nat.reducePow]; omega
  simp only [aConv, hk, hd, Option.isSome_some, if_true, w16, vConv, Option.map_some, IntKind.wrap_u8, h, b8]
theorem conv_w16_w16 (P : Program) (H : Hp) (s d : TypeId) (x : BitVec 16) (hs : isIntT P s = true) (hd : P.underlying d = some (.int .u16)) : aConv P H s d (.p (w16 x)) = some (.p (w16 (x.setWidth 16))) := by
  obtain ⟨k, hk⟩ := isIntT_inv hs
  have h : ((x.toNat : Int) % 65536) = ((x.setWidth 16).toNat : Int) := by rw [BitVec.toNat_setWidth]; simp only [Nat.reducePow]; omega
  simp only [aConv, hk, hd, Option.isSome_some, if_true, w16, vConv, Option.map_some, IntKind.wrap_u16, h, w16]
theorem conv_w16_w32 (P : Program) (H : Hp) (s d : TypeId) (x : BitVec 16) (hs : isIntT P s = true) (hd : P.underlying d = some (.int .u32)) : aConv P H s d (.p (w16 x)) = some (.p (w32 (x.setWidth 32))) := by
  obtain ⟨k, hk⟩ := isIntT_inv hs
  have h : ((x.toNat : Int) % 4294967296) = ((x.setWidth 32).toNat : Int) := by rw [BitVec.toNat_setWidth]; simp only [Nat.reducePow]; omega
  simp only [aConv, hk, hd, Option.isSome_some, if_true, w16, vConv, Option.map_some, IntKind.wrap_u32', h, w32]
theorem conv_w16_w64 (P : Program) (H : Hp) (s d : TypeId) (x : BitVec 16) (hs : isIntT P s = true) (hd : P.underlying d = some (.int .u64)) : aConv P H s d (.p (w16 x)) = some (.p (w64 (x.setWidth 64))) := by
  obtain ⟨k, hk⟩ := isIntT_inv hs
  have h : ((x.toNat : Int) % 18446744073709551616) = ((x.setWidth 64).toNat : Int) := by rw [BitVec.toNat_setWidth]; simp only [Nat.reducePow]; omega
  simp only [aConv, hk, hd, Option.isSome_some, if_true, w16, vConv, Option.map_some, IntKind.wrap_u64, h, w64]
theorem conv_w16_i64 (P : Program) (H : Hp) (s d : TypeId) (x : BitVec 16) (hs : isIntT P s = true) (hd : P.underlying d = some (.int .i64)) : aConv P H s d (.p (w16 x)) = some (.p (i64 (IntKind.i64.wrap x.toNat))) := by
  obtain ⟨k, hk⟩ := isIntT_inv hs
  simp only [aConv, hk, hd, Option.isSome_some, if_true, w16, vConv, Option.map_some, i64]
theorem conv_w32_b8 (P : Program) (H : Hp) (s d : TypeId) (x : BitVec 32) (hs : isIntT P s = true) (hd : P.underlying d = some (.int .u8)) : aConv P H s d (.p (w32 x)) = some (.p (b8 (x.setWidth 8))) := by
  obtain ⟨k, hk⟩ := isIntT_inv hs
  have h : ((x.toNat : Int) % 256) = ((x.setWidth 8).toNat : Int) := by rw [BitVec.toNat_setWidth]; simp only [Nat.reducePow]; omega
  simp only [aConv, hk, hd, Option.isSome_some, if_true, w32, vConv, Option.map_some, IntKind.wrap_u8, h, b8]
theorem conv_w32_w16 (P : Program) (H : Hp) (s d : TypeId) (x : BitVec 32) (hs : isIntT P s = true) (hd : P.underlying d = some (.int .u16)) : aConv P H s d (.p (w32 x)) = some (.p (w16 (x.setWidth 16))) := by
  obtain ⟨k, hk⟩ := isIntT_inv hs
  have h : ((x.toNat : Int) % 65536) = ((x.setWidth 16).toNat : Int) := by rw [BitVec.toNat_setWidth]; simp only [Nat.reducePow]; omega
  simp only [aConv, hk, hd, Option.isSome_some, if_true, w32, vConv, Option.map_some, IntKind.wrap_u16, h, w16]
theorem conv_w32_w32 (P : Program) (H : Hp) (s d : TypeId) (x : BitVec 32) (hs : isIntT P s = true) (hd : P.underlying d = some (.int .u32)) : aConv P H s d (.p (w32 x)) = some (.p (w32 (x.setWidth 32))) := by
  obtain ⟨k, hk⟩ := isIntT_inv hs
  have h : ((x.toNat : Int) % 4294967296) = ((x.setWidth 32).toNat : Int) := by rw [BitVec.toNat_setWidth]; simp only [Nat.reducePow]; omega
  simp only [aConv, hk, hd, Option.isSome_some, if_true, w32, vConv, Option.map_some, IntKind.wrap_u32', h, w32]
theorem conv_w32_w64 (P : Program) (H : Hp) (s d : TypeId) (x : BitVec 32) (hs : isIntT P s = true) (hd : P.underlying d = some (.int .u64)) : aConv P H s d (.p (w32 x)) = some (.p (w64 (x.setWidth 64))) := by
  obtain ⟨k, hk⟩ := isIntT_inv hs
  have h : ((x.toNat : Int) % 18446744073709551616) = ((x.setWidth 64).toNat : Int) := by rw [BitVec.toNat_setWidth]; simp only [Nat.reducePow]; omega
  simp only [aConv, hk, hd, Option.isSome_some, if_true, w32, vConv, Option.map_some, IntKind.wrap_u64, h, w64]
theorem conv_w32_i64 (P : Program) (H : Hp) (s d : TypeId) (x : BitVec 32) (hs : isIntT P s = true) (hd : P.underlying d = some (.int .i64)) : aConv P H s d (.p (w32 x)) = some (.p (i64 (IntKind.i64.wrap x.toNat))) := by
  obtain ⟨k, hk⟩ := isIntT_inv hs
  simp only [aConv, hk, hd, Option.isSome_some, if_true, w32, vConv, Option.map_some, i64]
theorem conv_w64_b8 (P : Program) (H : Hp) (s d : TypeId) (x : BitVec 64) (hs : isIntT P s = true) (hd : P.underlying d = some (.int .u8)) : aConv P H s d (.p (w64 x)) = some (.p (b8 (x.setWidth 8))) := by
  obtain ⟨k, hk⟩ := isIntT_inv hs
  have h : ((x.toNat : Int) % 256) = ((x.setWidth 8).toNat : Int) := by rw [BitVec.toNat_setWidth]; simp only [Nat.reducePow]; omega
  simp only [aConv, hk, hd, Option.isSome_some, if_true, w64, vConv, Option.map_some, IntKind.wrap_u8, h, b8]
theorem conv_w64_w16 (P : Program) (H : Hp) (s d : TypeId) (x : BitVec 64) (hs : isIntT P s = true) (hd : P.underlying d = some (.int .u16)) : aConv P H s d (.p (w64 x)) = some (.p (w16 (x.setWidth 16))) := by
  obtain ⟨k, hk⟩ := isIntT_inv hs
  have h : ((x.toNat : Int) % 65536) = ((x.setWidth 16).toNat : Int) := by rw [BitVec.toNat_setWidth]; simp only [Nat.reducePow]; omega
  simp only [aConv, hk, hd, Option.isSome_some, if_true, w64, vConv, Option.map_some, IntKind.wrap_u16, h, w16]
theorem conv_w64_w32 (P : Program) (H : Hp) (s d : TypeId) (x : BitVec 64) (hs : isIntT P s = true) (hd : P.underlying d = some (.int .u32)) : aConv P H s d (.p (w64 x)) = some (.p (w32 (x.setWidth 32))) := by
  obtain ⟨k, hk⟩ := isIntT_inv hs
  have h : ((x.toNat : Int) % 4294967296) = ((x.setWidth 32).toNat : Int) := by rw [BitVec.toNat_setWidth]; simp only [Nat.reducePow]; omega
  simp only [aConv, hk, hd, Option.isSome_some, if_true, w64, vConv, Option.map_some, IntKind.wrap_u32', h, w32]
theorem conv_w64_w64 (P : Program) (H : Hp) (s d : TypeId) (x : BitVec 64) (hs : isIntT P s = true) (hd : P.underlying d = some (.int .u64)) : aConv P H s d (.p (w64 x)) = some (.p (w64 (x.setWidth 64))) := by
  obtain ⟨k, hk⟩ := isIntT_inv hs
  have h : ((x.toNat : Int) % 18446744073709551616) = ((x.setWidth 64).toNat : Int) := by rw [BitVec.toNat_setWidth]; simp only [Nat.reducePow]; omega
  simp only [aConv, hk, hd, Option.isSome_some, if_true, w64, vConv, Option.map_some, IntKind.wrap_u64, h, w64]
theorem conv_w64_i64 (P : Program) (H : Hp) (s d : TypeId) (x : BitVec 64) (hs : isIntT P s = true) (hd : P.underlying d = some (.int .i64)) : aConv P H s d (.p (w64 x)) = some (.p (i64 (IntKind.i64.wrap x.toNat))) := by
  obtain ⟨k, hk⟩ := isIntT_inv hs
  simp only [aConv, hk, hd, Option.isSome_some, if_true, w64, vConv, Option.map_some, i64]
theorem conv_i64_b8 (P : Program) (H : Hp) (s d : TypeId) (x : Int) (hs : isIntT P s = true) (hd : P.underlying d = some (.int .u8)) : aConv P H s d (.p (i64 x)) = some (.p (b8 (BitVec.ofInt 8 x))) := by
  obtain ⟨k, hk⟩ := isIntT_inv hs
  have h : (x % 256) = ((BitVec.ofInt 8 x).toNat : Int) := by rw [BitVec.toNat_ofInt]; simp only [Nat.reducePow, Int.cast_ofNat_Int]; omega
  simp only [aConv, hk, hd, Option.isSome_some, if_true, i64, vConv, Option.map_some, IntKind.wrap_u8, h, b8]
theorem conv_i64_w16 (P : Program) (H : Hp) (s d : TypeId) (x : Int) (hs : isIntT P s = true) (hd : P.underlying d = some (.int .u16)) : aConv P H s d (.p (i64 x)) = some (.p (w16 (BitVec.ofInt 16 x))) := by
  obtain ⟨k, hk⟩ := isIntT_inv hs
  have h : (x % 65536) = ((BitVec.ofInt 16 x).toNat : Int) := by rw [BitVec.toNat_ofInt]; simp only [Nat.reducePow, Int.cast_ofNat_Int]; omega
  simp only [aConv, hk, hd, Option.isSome_some, if_true, i64, vConv, Option.map_some, IntKind.wrap_u16, h, w16]
theorem conv_i64_w32 (P : Program) (H : Hp) (s d : TypeId) (x : Int) (hs : isIntT P s = true) (hd : P.underlying d = some (.int .u32)) : aConv P H s d (.p (i64 x)) = some (.p (w32 (BitVec.ofInt 32 x))) := by
  obtain ⟨k, hk⟩ := isIntT_inv hs
  have h : (x % 4294967296) = ((BitVec.ofInt 32 x).toNat : Int) := by rw [BitVec.toNat_ofInt]; simp only [Nat.reducePow, Int.cast_ofNat_Int]; omega
  simp only [aConv, hk, hd, Option.isSome_some, if_true, i64, vConv, Option.map_some, IntKind.wrap_u32', h, w32]
theorem conv_i64_w64 (P : Program) (H : Hp) (s d : TypeId) (x : Int) (hs : isIntT P s = true) (hd : P.underlying d = some (.int .u64)) : aConv P H s d (.p (i64 x)) = some (.p (w64 (BitVec.ofInt 64 x))) := by
  obtain ⟨k, hk⟩ := isIntT_inv hs
  have h : (x % 18446744073709551616) = ((BitVec.ofInt 64 x).toNat : Int) := by rw [BitVec.toNat_ofInt]; simp only [Nat.reducePow, Int.cast_ofNat_Int]; omega
  simp only [aConv, hk, hd, Option.isSome_some, if_true, i64, vConv, Option.map_some, IntKind.wrap_u64, h, w64]
theorem conv_i64_i64 (P : Program) (H : Hp) (s d : TypeId) (x : Int) (hs : isIntT P s = true) (hd : P.underlying d = some (.int .i64)) : aConv P H s d (.p (i64 x)) = some (.p (i64 (IntKind.i64.wrap x))) := by
  obtain ⟨k, hk⟩ := isIntT_inv hs
  simp only [aConv, hk, hd, Option.isSome_some, if_true, i64, vConv, Option.map_some, i64]
theorem minmax_i64_min (x y : Int) : aMinMax false (.p (i64 x)) (.p (i64 y)) = some (.p (i64 (min x y))) := rfl
theorem minmax_i64_max (x y : Int) : aMinMax true (.p (i64 x)) (.p (i64 y)) = some (.p (i64 (max x y))) := rfl

end Go.AL
