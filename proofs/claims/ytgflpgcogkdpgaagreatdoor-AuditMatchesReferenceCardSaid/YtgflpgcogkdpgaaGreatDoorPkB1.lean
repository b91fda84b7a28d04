/-
  errors.Is of an error code or nil and an error code.
-/
import Derived.Test.YtgflpgcogkdpgaaGreatDoorChecked
import Derived.WalkKit
import Derived.LaidEql
import Derived.Stop.Asserts
import Derived.RowKitTokens
import Derived.Lib.IfaceEq
import Derived.Stop.IfaceNil
set_option linter.unusedSimpArgs false
set_option linter.unusedVariables false
namespace Go.Proofs.YtgflpgcogkdpgaaGreatDoor
open Go.RowKit Go.Extern.Stop Go.Stop Go.Extern

noncomputable def zBZ : Array Value → Sem Value := Extern.ReflectliteType.method fun t => do Extern.Rtype.noPackHeld "Comparable" t; pure (.bool (← typeInfo t).comparable)
theorem isTypeOf (v : Value) (w : World) : (Extern.ReflectliteType.typeOf #[.iface 44 v]).run Tryz.prog w = .ok (.iface 160 (.agg #[.pointer (some ⟨4, 44, none⟩)])) w := by kernel_rfl
theorem isComparable (w : World) : (zBZ #[.agg #[.pointer (some ⟨4, 44, none⟩)]]).run Tryz.prog w = .ok (.bool true) w := by kernel_rfl
theorem isMethodComparable (v : Value) (w : World) : (Go.method 342 160 v "Comparable").run Tryz.prog w = .ok (132, v) w := by kernel_rfl
theorem isComp : (Tryz.prog.info? 44).map (·.comparable) = some true := by kernel_rfl
theorem zDX (v : Value) (xT : TypeId) (w : World) : (Instr.typeAssert (.iface 44 v) xT 162 true).run Tryz.prog w = .ok (.tuple #[.nilIface, .bool false]) w := run_typeAssert_lacksB Tryz.underlying162 (by kernel_rfl) (by kernel_rfl) v xT w
theorem zsm (v : Value) (xT : TypeId) (w : World) : (Instr.typeAssert (.iface 44 v) xT 165 true).run Tryz.prog w = .ok (.tuple #[.nilIface, .bool false]) w := run_typeAssert_lacksB Tryz.underlying165 (by kernel_rfl) (by kernel_rfl) v xT w
theorem zpZ (v : Value) (xT : TypeId) (w : World) : (Instr.typeAssert (.iface 44 v) xT 167 true).run Tryz.prog w = .ok (.tuple #[.nilIface, .bool false]) w := run_typeAssert_lacksB Tryz.underlying167 (by kernel_rfl) (by kernel_rfl) v xT w

theorem is_nil (b : Int) (w : World) :
    Calls Tryz.prog 34 #[.nilIface, .iface 44 (.int .i64 b)] w fun e w' => e = .returned (.bool false) ∧ w' = w := by
  have hn := run_eql_iface_nil_left (P := Tryz.prog) w 44 (.int .i64 b) Tryz.underlying92
  go_enter Tryz.func34, Tryz.ntmps34
  go_wp2
  go_ret
  exact⟨rfl, rfl⟩
set_option maxHeartbeats 4000000 in
set_option maxRecDepth 100000 in
theorem zwS (a b : Int) (w : World) :
    Calls Tryz.prog 34 #[.iface 44 (.int .i64 a), .iface 44 (.int .i64 b)] w fun e w' => e = .returned (.bool (a == b)) ∧ w' = w := by
  have h8 := @run_callFunc_extern Tryz.prog 55 _ Extern.ReflectliteType.typeOf Tryz.func55 (by kernel_rfl) (by kernel_rfl) (by kernel_rfl) (by kernel_rfl)
  have h32 := @run_callFunc_extern Tryz.prog 132 _ zBZ Tryz.func132 (by kernel_rfl) (by kernel_rfl) (by kernel_rfl) (by kernel_rfl)
  have tT := isTypeOf
  have cT := isComparable
  have mR := isMethodComparable
  have nE := zDX
  have uE := zsm
  have vE := zpZ
  have heq := Go.Lib.run_eql_iface_int (P := Tryz.prog) w (k := .i64) a b Tryz.underlying92 isComp Tryz.underlying44
  have hn1 := Go.run_eql_iface_nil (P := Tryz.prog) (w := w) 92 (by kernel_rfl) 44 (.int .i64 a)
  have hn2 := Go.run_eql_iface_nil (P := Tryz.prog) (w := w) 92 (by kernel_rfl) 44 (.int .i64 b)
  cases hab : (a == b) with
  | true =>
    rw [hab] at heq
    go_enter Tryz.func34, Tryz.ntmps34
    go_wp2
    refine wp_loop_rounds 1 ?_
    rw [rounds_succ]
    go_wp2
    go_ret
    exact⟨rfl, rfl⟩
  | false =>
    rw [hab] at heq
    go_enter Tryz.func34, Tryz.ntmps34
    go_wp2
    refine wp_loop_rounds 1 ?_
    rw [rounds_succ]
    go_wp2
    go_ret
    exact⟨rfl, rfl⟩
end Go.Proofs.YtgflpgcogkdpgaaGreatDoor
