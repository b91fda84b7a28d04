/-
  Padding, the digest's bytes and the whole hash as plain functions.
-/
import Derived.Test.YtkpeknkpleocgaaDoorShaN
set_option linter.unusedSimpArgs false
set_option linter.unusedVariables false
namespace Go.Proofs.YtkpeknkpleocgaaDoor
open Go Go.AL

def padn (n : Nat) : Nat := (119 - n % 64) % 64
theorem padn_mod (n : Nat) : (n + 1 + padn n) % 64 = 56 := by unfold padn; omega
theorem padn_lt (n j : Nat) (h : j < padn n) : (n + 1 + j) % 64 ≠ 56 := by unfold padn at h; omega
theorem padn_le (n : Nat) : padn n ≤ 63 := by unfold padn; omega
def be64 (v : BitVec 64) : Nat → List (BitVec 8)
  | 0 => []
  | i + 1 => be64 v i ++ [(v >>> (56 - 8 * i)).setWidth 8]
theorem be64_len (v : BitVec 64) (i : Nat) : (be64 v i).length = i := by
  induction i with
  | zero => rfl
  | succ i ih => simp [be64, ih]
def pad (b : List (BitVec 8)) : List (BitVec 8) := b ++ [128#8] ++ List.replicate (padn b.length) 0#8 ++ be64 (BitVec.ofInt 64 b.length * 8#64) 8
theorem pad_len (b : List (BitVec 8)) : (pad b).length = b.length + 1 + padn b.length + 8 := by simp [pad, be64_len]; omega

/-- The bytes of a state. -/
def dg (s : List (BitVec 32)) : Nat → List (BitVec 8)
  | 0 => List.replicate 32 0#8
  | i + 1 => (dg s i).set i ((nth s (i / 4) >>> (24 - 8 * (i % 4))).setWidth 8)
theorem dg_len (s : List (BitVec 32)) (i : Nat) : (dg s i).length = 32 := by
  induction i with
  | zero => simp [dg]
  | succ i ih => simp [dg, ih]
attribute [go_sem] be64_len dg_len

/-- The state behind the first n blocks of a row of bytes. -/
def runBlocks (p : List (BitVec 8)) (s : List (BitVec 32)) : Nat → List (BitVec 32)
  | 0 => s
  | i + 1 => comp (runBlocks p s i) ((p.take (64 * i + 64)).drop (64 * i))
theorem comp_len (s : List (BitVec 32)) (b : List (BitVec 8)) : (comp s b).length = 8 := rfl
theorem runBlocks_len (p : List (BitVec 8)) (s : List (BitVec 32)) (hs : s.length = 8) (i : Nat) : (runBlocks p s i).length = 8 := by
  cases i with
  | zero => exact hs
  | succ i => rfl
def sha (b : List (BitVec 8)) : List (BitVec 8) := dg (runBlocks (pad b) inits ((pad b).length / 64)) 32
theorem sha_len (b : List (BitVec 8)) : (sha b).length = 32 := dg_len _ _
attribute [go_sem] comp_len sha_len

/-- A digest made of arbitrary bytes. -/
def made (b : List (BitVec 8)) : Nat → List (BitVec 8)
  | 0 => List.replicate 32 0#8
  | i + 1 => (made b i).set i (nth b i)
theorem made_len (b : List (BitVec 8)) (i : Nat) : (made b i).length = 32 := by
  induction i with
  | zero => simp [made]
  | succ i ih => simp [made, ih]
def mk (b : List (BitVec 8)) : List (BitVec 8) := made b (min 32 b.length)
theorem mk_len (b : List (BitVec 8)) : (mk b).length = 32 := made_len _ _
def masked (k : List (BitVec 8)) (m : BitVec 8) : Nat → List (BitVec 8)
  | 0 => []
  | i + 1 => masked k m i ++ [if i < 32 then nth k i ^^^ m else m]
theorem masked_len (k : List (BitVec 8)) (m : BitVec 8) (i : Nat) : (masked k m i).length = i := by
  induction i with
  | zero => rfl
  | succ i ih => simp [masked, ih]
attribute [go_sem] made_len mk_len masked_len
def leaf (b : List (BitVec 8)) : List (BitVec 8) := sha ([0#8] ++ b)
def pair (a b : List (BitVec 8)) : List (BitVec 8) := sha ([1#8] ++ a ++ b)
def keyed (k b : List (BitVec 8)) : List (BitVec 8) := sha (masked k 92#8 64 ++ sha (masked k 54#8 64 ++ b))
end Go.Proofs.YtkpeknkpleocgaaDoor
