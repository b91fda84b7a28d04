/-
  The plain laws of the words: how a word is put together of four bytes; choice and majority.
-/
import Derived.Test.YtkpeknkpleocgaaDoorShaM
set_option linter.unusedSimpArgs false
set_option linter.unusedVariables false
namespace Go.Proofs.YtkpeknkpleocgaaDoor
open Go Go.AL

theorem shl8_or (x : BitVec 32) (y : BitVec 8) : x <<< 8 ||| y.setWidth 32 = x * 256#32 + y.setWidth 32 := by
  have e : x * 256#32 = x <<< 8 := by
    rw [BitVec.shiftLeft_eq_mul_twoPow]; rfl
  rw [e]
  symm
  apply BitVec.add_eq_or_of_and_eq_zero
  ext i hi
  simp only [BitVec.getElem_and, BitVec.getElem_shiftLeft, BitVec.getElem_setWidth, BitVec.getElem_zero]
  by_cases h : i < 8
  · simp [h]
  · simp [h, BitVec.getLsbD_of_ge y i (by omega)]

def part (b : List (BitVec 8)) (i : Nat) : Nat → BitVec 32
  | 0 => 0#32
  | j + 1 => part b i j <<< 8 ||| (nth b (4 * i + j)).setWidth 32

theorem part_word (b : List (BitVec 8)) (i : Nat) : part b i 4 = word b i := by
  simp only [part, shl8_or, word, BitVec.add_mul, BitVec.mul_assoc, Nat.add_zero, BitVec.zero_mul, BitVec.zero_add]
  rfl

theorem sW_zero (b : List (BitVec 8)) : ∀ (i j : Nat), i ≤ j → j < 64 → nth (sW b i) j = 0#32
  | 0, j, _, hj => nth_replicate hj
  | i + 1, j, h, hj => by rw [sW, nth_set_ne (by omega)]; exact sW_zero b i j (by omega) hj

theorem set_nth {α : Type} [Inhabited α] {l : List α} {i : Nat} (h : i < l.length) : l.set i (nth l i) = l := by
  refine nth_ext (by simp) fun j hj => ?_
  by_cases e : i = j
  · subst e; rw [nth_set_eq rfl h]
  · rw [nth_set_ne e]

theorem sW_part0 (b : List (BitVec 8)) (i : Nat) (h : i < 64) : (sW b i).set i (part b i 0) = sW b i := by
  have := set_nth (l := sW b i) (i := i) (by rw [sW_len]; exact h)
  rwa [sW_zero b i i (Nat.le_refl _) h] at this

theorem sW_part4 (b : List (BitVec 8)) (i : Nat) (h : i < 16) : (sW b i).set i (part b i 4) = sW b (i + 1) := by
  rw [part_word, sW, nextW, if_pos h]

theorem not_sub (e : BitVec 32) : ~~~e = 4294967295#32 - e := by
  rw [show (4294967295#32 : BitVec 32) = BitVec.allOnes 32 from rfl, BitVec.allOnes_sub_eq_not]
theorem maj_or (a b c : BitVec 32) : a &&& b ^^^ a &&& c ^^^ b &&& c = a &&& b ||| a &&& c ||| b &&& c := by
  ext i hi
  simp only [BitVec.getElem_and, BitVec.getElem_xor, BitVec.getElem_or]
  cases a[i] <;> cases b[i] <;> cases c[i] <;> rfl
end Go.Proofs.YtkpeknkpleocgaaDoor
