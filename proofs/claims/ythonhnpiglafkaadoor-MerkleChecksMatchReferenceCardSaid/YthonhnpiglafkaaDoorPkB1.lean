/-
  DERIVED: LAID BY THE SHELF's contract.sh OFF ITS TEMPLATE 'math/bits.Len64' FOR THE PROGRAM 'Tryd' (the function's number there: 89). THE LIBRARY's OWN TEXT IS WALKED: nothing is assumed of it. Behind the contract: ONE FALSE NEIGHBOUR,a contract that says a little too much,REFUTED.
-/
import Derived.Test.YthonhnpiglafkaaDoorChecked
import Derived.Lib.Strings
import Derived.Lib.Slices
import Derived.Lib.Small
import Derived.Lib.Walk
import Derived.Lib.BitFns
import Derived.Laws.Bits64b
import Derived.Lib.TrailingZeros
set_option linter.unusedSimpArgs false
set_option linter.unusedVariables false
namespace Go.Proofs

set_option maxHeartbeats 4000000 in
set_option maxRecDepth 100000 in
theorem Tryd.bits_Len64 (x:Int) (w:World) (h0:0≤x) (h1:x≤18446744073709551615) :
    Calls Tryd.prog 89 #[.int .u64 x] w fun e w'=>e = .returned (.int .i64 (Lib.bitLen x.toNat))∧w'=w:=by
  go_enter Tryd.func89,Tryd.ntmps89
  go_wp2
  all_goals (go_ret;refine ⟨congrArg Ending.returned (congrArg (Value.int IntKind.i64) ?_),rfl⟩)
  all_goals first
    | (rw [Lib.len8_of (x / 4294967296 / 65536 / 256 % 256) (by omega) (by omega)]
       have e:(x / 4294967296 / 65536 / 256 % 256).toNat=x.toNat / 72057594037927936:=by omega
       have l:=Lib.bitLen_le8' (x / 4294967296 / 65536 / 256 % 256) (by omega) (by omega)
       have s:=Lib.bitLen_shift56 x.toNat (by omega) (by omega)
       rw [e] at l ⊢
       omega)
    | (rw [Lib.len8_of (x / 4294967296 / 65536 % 256) (by omega) (by omega)]
       have e:(x / 4294967296 / 65536 % 256).toNat=x.toNat / 281474976710656:=by omega
       have l:=Lib.bitLen_le8' (x / 4294967296 / 65536 % 256) (by omega) (by omega)
       have s:=Lib.bitLen_shift48 x.toNat (by omega) (by omega)
       rw [e] at l ⊢
       omega)
    | (rw [Lib.len8_of (x / 4294967296 / 256 % 256) (by omega) (by omega)]
       have e:(x / 4294967296 / 256 % 256).toNat=x.toNat / 1099511627776:=by omega
       have l:=Lib.bitLen_le8' (x / 4294967296 / 256 % 256) (by omega) (by omega)
       have s:=Lib.bitLen_shift40 x.toNat (by omega) (by omega)
       rw [e] at l ⊢
       omega)
    | (rw [Lib.len8_of (x / 4294967296 % 256) (by omega) (by omega)]
       have e:(x / 4294967296 % 256).toNat=x.toNat / 4294967296:=by omega
       have l:=Lib.bitLen_le8' (x / 4294967296 % 256) (by omega) (by omega)
       have s:=Lib.bitLen_shift32 x.toNat (by omega) (by omega)
       rw [e] at l ⊢
       omega)
    | (rw [Lib.len8_of (x / 65536 / 256 % 256) (by omega) (by omega)]
       have e:(x / 65536 / 256 % 256).toNat=x.toNat / 16777216:=by omega
       have l:=Lib.bitLen_le8' (x / 65536 / 256 % 256) (by omega) (by omega)
       have s:=Lib.bitLen_shift24 x.toNat (by omega) (by omega)
       rw [e] at l ⊢
       omega)
    | (rw [Lib.len8_of (x / 65536 % 256) (by omega) (by omega)]
       have e:(x / 65536 % 256).toNat=x.toNat / 65536:=by omega
       have l:=Lib.bitLen_le8' (x / 65536 % 256) (by omega) (by omega)
       have s:=Lib.bitLen_shift16 x.toNat (by omega) (by omega)
       rw [e] at l ⊢
       omega)
    | (rw [Lib.len8_of (x / 256 % 256) (by omega) (by omega)]
       have e:(x / 256 % 256).toNat=x.toNat / 256:=by omega
       have l:=Lib.bitLen_le8' (x / 256 % 256) (by omega) (by omega)
       have s:=Lib.bitLen_shift8 x.toNat (by omega) (by omega)
       rw [e] at l ⊢
       omega)
    | (rw [Lib.len8_of (x % 256) (by omega) (by omega)]
       have e:(x % 256).toNat=x.toNat:=by omega
       have l:=Lib.bitLen_le8' (x % 256) (by omega) (by omega)
       rw [e] at l ⊢
       omega)

end Go.Proofs

/-
  DERIVED: LAID BY THE SHELF's contract.sh OFF ITS TEMPLATE 'math/bits.Len' FOR THE PROGRAM 'Tryd' (the function's number there: 79). THE LIBRARY's OWN TEXT IS WALKED: nothing is assumed of it. Behind the contract: ONE FALSE NEIGHBOUR,a contract that says a little too much,REFUTED.
-/
namespace Go.Proofs

theorem Tryd.bits_Len (x:Int) (w:World) (h0:0≤x) (h1:x≤18446744073709551615) :
    Calls Tryd.prog 79 #[.int .u64 x] w fun e w'=>e = .returned (.int .i64 (Lib.bitLen x.toNat))∧w'=w:=by
  go_enter Tryd.func79,Tryd.ntmps79
  go_wp2_with (go_at_call 89;refine (Tryd.bits_Len64 x _ h0 h1).mono ?_;rintro e w' ⟨rfl,rfl⟩)
  go_ret
  exact ⟨rfl,rfl⟩

end Go.Proofs

/-
  Bits: the number of trailing zeros of a word.
-/
namespace Go.Proofs.YthonhnpiglafkaaDoor
open Go

set_option maxRecDepth 100000 in
set_option maxHeartbeats 1000000 in
theorem tz64_core (x k idx:Nat) (w:World) (hx0:((x:Int) == 0)=false)
    (key:IntKind.u64.wrap (bits BinOp.and IntKind.u64 (x:Int) (IntKind.u64.wrap (-(x:Int)))*285870213051353865) / 288230376151711744=(idx:Int))
    (hi:idx < 64) (hk:k < 64) (hcell:w.cell? ⟨2,idx,none⟩=some (.int .u8 k)) :
    Calls Tryd.prog 68 #[.int .u64 x] w fun e w'=>e = .returned (.int .i64 k)∧w'=w:=by
  go_enter Tryd.func68,Tryd.ntmps68
  go_wp2_with (simp only [key])
  go_ret
  have e:((k:Int)+9223372036854775808) % 18446744073709551616 - 9223372036854775808=(k:Int):=by omega
  simp only [e]
  exact ⟨rfl,trivial⟩

set_option maxRecDepth 100000 in
theorem tz64_key (x a:Nat) (hx:x < 18446744073709551616) (hx0:x≠0) (hlow:x &&& (18446744073709551616 - x)=a) :
    IntKind.u64.wrap (bits BinOp.and IntKind.u64 (x:Int) (IntKind.u64.wrap (-(x:Int)))*285870213051353865) / 288230376151711744=((a*285870213051353865 % 18446744073709551616 / 288230376151711744:Nat):Int):=by
  have e1:IntKind.u64.wrap (-(x:Int))=((18446744073709551616 - x:Nat):Int):=by rw [IntKind.wrap_u64];omega
  rw [e1,bits_and_u64_nat x _ hx (by omega),hlow,IntKind.wrap_u64]
  omega

theorem tz64 (x:Nat) (hx:x < 18446744073709551616) (hx0:x≠0) (w:World) (hT : ∀ j,j < 64 → w.cell? ⟨2,j,none⟩=some (.int .u8 ((Lib.deBruijn64tab.getD j 0:Nat):Int))) :
    Calls Tryd.prog 68 #[.int .u64 x] w fun e w'=>e = .returned (.int .i64 (Lib.ctz 64 x))∧w'=w:=by
  obtain ⟨hlow,hk⟩:=Lib.lowest_bit 64 x hx0 hx
  obtain ⟨hi,htab⟩:=Lib.deBruijn64_at _ hk
  have hcell:=hT _ hi
  rw [htab] at hcell
  exact tz64_core x _ _ w (by simp;omega) (tz64_key x _ hx hx0 hlow) hi hk hcell
end Go.Proofs.YthonhnpiglafkaaDoor
