/-
  SHA-256's round and schedule as plain functions on words.
-/
import Derived.Test.YtkpeknkpleocgaaDoorEngS
set_option linter.unusedSimpArgs false
set_option linter.unusedVariables false
namespace Go.Proofs.YtkpeknkpleocgaaDoor
open Go Go.AL

def rotr (x : BitVec 32) (n : Nat) : BitVec 32 := x >>> n ||| x <<< (32 - n)
def sg0 (x : BitVec 32) : BitVec 32 := rotr x 7 ^^^ rotr x 18 ^^^ x >>> 3
def sg1 (x : BitVec 32) : BitVec 32 := rotr x 17 ^^^ rotr x 19 ^^^ x >>> 10
def bg0 (x : BitVec 32) : BitVec 32 := rotr x 2 ^^^ rotr x 13 ^^^ rotr x 22
def bg1 (x : BitVec 32) : BitVec 32 := rotr x 6 ^^^ rotr x 11 ^^^ rotr x 25

/-- The i-th word of a block. -/
def word (b : List (BitVec 8)) (i : Nat) : BitVec 32 := (nth b (4 * i)).setWidth 32 * 16777216#32 + (nth b (4 * i + 1)).setWidth 32 * 65536#32 + (nth b (4 * i + 2)).setWidth 32 * 256#32 + (nth b (4 * i + 3)).setWidth 32

def nextW (b : List (BitVec 8)) (w : List (BitVec 32)) (i : Nat) : BitVec 32 := if i < 16 then word b i else nth w (i - 16) + sg0 (nth w (i - 15)) + nth w (i - 7) + sg1 (nth w (i - 2))

/-- The schedule behind i steps. -/
def sW (b : List (BitVec 8)) : Nat → List (BitVec 32)
  | 0 => List.replicate 64 0#32
  | i + 1 => (sW b i).set i (nextW b (sW b i) i)

theorem sW_len (b : List (BitVec 8)) (i : Nat) : (sW b i).length = 64 := by
  induction i with
  | zero => simp [sW]
  | succ i ih => simp [sW, ih]

attribute [go_sem] sW_len

def ks : List (BitVec 32) := [
  0x428a2f98#32, 0x71374491#32, 0xb5c0fbcf#32, 0xe9b5dba5#32, 0x3956c25b#32, 0x59f111f1#32, 0x923f82a4#32, 0xab1c5ed5#32,
  0xd807aa98#32, 0x12835b01#32, 0x243185be#32, 0x550c7dc3#32, 0x72be5d74#32, 0x80deb1fe#32, 0x9bdc06a7#32, 0xc19bf174#32,
  0xe49b69c1#32, 0xefbe4786#32, 0x0fc19dc6#32, 0x240ca1cc#32, 0x2de92c6f#32, 0x4a7484aa#32, 0x5cb0a9dc#32, 0x76f988da#32,
  0x983e5152#32, 0xa831c66d#32, 0xb00327c8#32, 0xbf597fc7#32, 0xc6e00bf3#32, 0xd5a79147#32, 0x06ca6351#32, 0x14292967#32,
  0x27b70a85#32, 0x2e1b2138#32, 0x4d2c6dfc#32, 0x53380d13#32, 0x650a7354#32, 0x766a0abb#32, 0x81c2c92e#32, 0x92722c85#32,
  0xa2bfe8a1#32, 0xa81a664b#32, 0xc24b8b70#32, 0xc76c51a3#32, 0xd192e819#32, 0xd6990624#32, 0xf40e3585#32, 0x106aa070#32,
  0x19a4c116#32, 0x1e376c08#32, 0x2748774c#32, 0x34b0bcb5#32, 0x391c0cb3#32, 0x4ed8aa4a#32, 0x5b9cca4f#32, 0x682e6ff3#32,
  0x748f82ee#32, 0x78a5636f#32, 0x84c87814#32, 0x8cc70208#32, 0x90befffa#32, 0xa4506ceb#32, 0xbef9a3f7#32, 0xc67178f2#32]
def inits : List (BitVec 32) := [0x6a09e667#32, 0xbb67ae85#32, 0x3c6ef372#32, 0xa54ff53a#32, 0x510e527f#32, 0x9b05688c#32, 0x1f83d9ab#32, 0x5be0cd19#32]

structure St where
  (a b c d e f g h : BitVec 32)

def rnd (s : St) (k w : BitVec 32) : St :=
  let t := s.h + bg1 s.e + (s.e &&& s.f ^^^ (4294967295#32 - s.e) &&& s.g) + k + w
  let u := bg0 s.a + (s.a &&& s.b ||| s.a &&& s.c ||| s.b &&& s.c)
  ⟨t + u, s.a, s.b, s.c, s.d + t, s.e, s.f, s.g⟩
def rnds (w : List (BitVec 32)) (s : St) : Nat → St
  | 0 => s
  | i + 1 => rnd (rnds w s i) (nth ks i) (nth w i)
def st (s : List (BitVec 32)) : St := ⟨nth s 0, nth s 1, nth s 2, nth s 3, nth s 4, nth s 5, nth s 6, nth s 7⟩
def fin (s : List (BitVec 32)) (z : St) : List (BitVec 32) := [nth s 0 + z.a, nth s 1 + z.b, nth s 2 + z.c, nth s 3 + z.d, nth s 4 + z.e, nth s 5 + z.f, nth s 6 + z.g, nth s 7 + z.h]
/-- The state behind one block. -/
def comp (s : List (BitVec 32)) (b : List (BitVec 8)) : List (BitVec 32) := fin s (rnds (sW b 64) (st s) 64)
end Go.Proofs.YtkpeknkpleocgaaDoor
