/-
  No cell of these rows narrows 'for every input' (looked for: loops, veiled, ifaces, maps, wideKeys, modest, calm, conditions, laid).
  DERIVED. THE GIVEN ROWS OF THIS SEAT. 7 by the template 'for every input the law returns true; each argument reads behind the call as it read before'; 0 by the template 'total and deterministic' (their statements: YtjnbifkojpfdgaaTotals.lean).
  GIVEN WITH THE SEED: the statements are not yours to turn. If you find one false, say at which input.
  Laid BY PROGRAM, IN A SANDBOX (cutbox-rows.mjs): the forced cells as the released guide's own fill.sh prints them over the translation 5ea4d6e22a098e62… (all of the seat's roots in one cut). By AI agents, Wed Nov 11 2026. No macro, syntax, notation, axiom, sorry.
-/
import Derived.Test.YtjnbifkojpfdgaaChecked
import GoSem.Claim
import GoSem.ClaimJoined
import GoSem.ClaimMapViews
import Derived.JoinedTies
import Derived.KernelRfl
namespace Go.Proofs.Ytjnbifkojpfdgaa
/- THE CELL 'sum', in the pinned program and in every row, IS THE sha256 OF THE DUMP (.gsa) THAT YtjnbifkojpfdgaaProg.lean LOADS. Nothing in Lean hashes anything: it is a label: what it is worth is what the hold of that sum in a sandbox is worth. -/
noncomputable def Try.pinned : Pinned := { name := "ytjnbifkojpfdgaa", sum := "5ea4d6e22a098e6205bb6cad84a09c584f77427527b14c75652c6e73d5b4c76f", checked := Try.checked }
namespace Rows
def none {H : Type} : Left H := { results := [], args := [] }

/-- 'attestorlaw19.OptimizeMatchesReference': WHATEVER THE INPUT: true; the input reads as it did. -/
def optimizeMatchesReferenceSpec : ChangeSpec := { name := "optimizeMatchesReference", fn := fun _ => fun
  | [d] => { results := [.lit (.bool true)], args := [d] }
  | _ => none }
def optimizeMatchesReferenceRow : OpenClaim := { program := "ytjnbifkojpfdgaa", sum := "5ea4d6e22a098e6205bb6cad84a09c584f77427527b14c75652c6e73d5b4c76f", func := "attestor/attestorlaw19.OptimizeMatchesReference", spec := "optimizeMatchesReference", inPlace := ["math/bits.Sub64", "math/bits.Add64"], unfollowed := true, recurses := true, plainKeys := false, apart := false }
def OptimizeMatchesReferenceSaid : Prop := optimizeMatchesReferenceRow.holds Try.pinned (OpenSpec.ofChange optimizeMatchesReferenceSpec)

/-- ITS FALSE NEIGHBOUR: 'it returns false'. Refute it at one input. -/
def optimizeMatchesReferenceWrong : ChangeSpec := { name := "optimizeMatchesReference", fn := fun _ => fun
  | [d] => { results := [.lit (.bool false)], args := [d] }
  | _ => none }
def OptimizeMatchesReferenceWrongFalsely : Prop := optimizeMatchesReferenceRow.holds Try.pinned (OpenSpec.ofChange optimizeMatchesReferenceWrong)

/-- 'attestorlaw19.OptimizeFoldPreserves': WHATEVER THE INPUT: true; the input reads as it did. -/
def optimizeFoldPreservesSpec : ChangeSpec := { name := "optimizeFoldPreserves", fn := fun _ => fun
  | [d] => { results := [.lit (.bool true)], args := [d] }
  | _ => none }
def optimizeFoldPreservesRow : OpenClaim := { program := "ytjnbifkojpfdgaa", sum := "5ea4d6e22a098e6205bb6cad84a09c584f77427527b14c75652c6e73d5b4c76f", func := "attestor/attestorlaw19.OptimizeFoldPreserves", spec := "optimizeFoldPreserves", inPlace := ["math/bits.Sub64", "math/bits.Add64"], unfollowed := true, recurses := true, plainKeys := false, apart := false }
def OptimizeFoldPreservesSaid : Prop := optimizeFoldPreservesRow.holds Try.pinned (OpenSpec.ofChange optimizeFoldPreservesSpec)

/-- ITS FALSE NEIGHBOUR: 'it returns false'. Refute it at one input. -/
def optimizeFoldPreservesWrong : ChangeSpec := { name := "optimizeFoldPreserves", fn := fun _ => fun
  | [d] => { results := [.lit (.bool false)], args := [d] }
  | _ => none }
def OptimizeFoldPreservesWrongFalsely : Prop := optimizeFoldPreservesRow.holds Try.pinned (OpenSpec.ofChange optimizeFoldPreservesWrong)

/-- 'attestorlaw19.OptimizeSharePreserves': WHATEVER THE INPUT: true; the input reads as it did. -/
def optimizeSharePreservesSpec : ChangeSpec := { name := "optimizeSharePreserves", fn := fun _ => fun
  | [d] => { results := [.lit (.bool true)], args := [d] }
  | _ => none }
def optimizeSharePreservesRow : OpenClaim := { program := "ytjnbifkojpfdgaa", sum := "5ea4d6e22a098e6205bb6cad84a09c584f77427527b14c75652c6e73d5b4c76f", func := "attestor/attestorlaw19.OptimizeSharePreserves", spec := "optimizeSharePreserves", inPlace := ["math/bits.Sub64", "math/bits.Add64"], unfollowed := true, recurses := true, plainKeys := false, apart := false }
def OptimizeSharePreservesSaid : Prop := optimizeSharePreservesRow.holds Try.pinned (OpenSpec.ofChange optimizeSharePreservesSpec)

/-- ITS FALSE NEIGHBOUR: 'it returns false'. Refute it at one input. -/
def optimizeSharePreservesWrong : ChangeSpec := { name := "optimizeSharePreserves", fn := fun _ => fun
  | [d] => { results := [.lit (.bool false)], args := [d] }
  | _ => none }
def OptimizeSharePreservesWrongFalsely : Prop := optimizeSharePreservesRow.holds Try.pinned (OpenSpec.ofChange optimizeSharePreservesWrong)

/-- 'attestorlaw19.OptimizeDeadPreserves': WHATEVER THE INPUT: true; the input reads as it did. -/
def optimizeDeadPreservesSpec : ChangeSpec := { name := "optimizeDeadPreserves", fn := fun _ => fun
  | [d] => { results := [.lit (.bool true)], args := [d] }
  | _ => none }
def optimizeDeadPreservesRow : OpenClaim := { program := "ytjnbifkojpfdgaa", sum := "5ea4d6e22a098e6205bb6cad84a09c584f77427527b14c75652c6e73d5b4c76f", func := "attestor/attestorlaw19.OptimizeDeadPreserves", spec := "optimizeDeadPreserves", inPlace := ["math/bits.Sub64", "math/bits.Add64"], unfollowed := true, recurses := true, plainKeys := false, apart := false }
def OptimizeDeadPreservesSaid : Prop := optimizeDeadPreservesRow.holds Try.pinned (OpenSpec.ofChange optimizeDeadPreservesSpec)

/-- ITS FALSE NEIGHBOUR: 'it returns false'. Refute it at one input. -/
def optimizeDeadPreservesWrong : ChangeSpec := { name := "optimizeDeadPreserves", fn := fun _ => fun
  | [d] => { results := [.lit (.bool false)], args := [d] }
  | _ => none }
def OptimizeDeadPreservesWrongFalsely : Prop := optimizeDeadPreservesRow.holds Try.pinned (OpenSpec.ofChange optimizeDeadPreservesWrong)

/-- 'attestorlaw19.OptimizeNormalForms': WHATEVER THE INPUT: true; the input reads as it did. -/
def optimizeNormalFormsSpec : ChangeSpec := { name := "optimizeNormalForms", fn := fun _ => fun
  | [d] => { results := [.lit (.bool true)], args := [d] }
  | _ => none }
def optimizeNormalFormsRow : OpenClaim := { program := "ytjnbifkojpfdgaa", sum := "5ea4d6e22a098e6205bb6cad84a09c584f77427527b14c75652c6e73d5b4c76f", func := "attestor/attestorlaw19.OptimizeNormalForms", spec := "optimizeNormalForms", inPlace := ["math/bits.Sub64", "math/bits.Add64"], unfollowed := true, recurses := true, plainKeys := false, apart := false }
def OptimizeNormalFormsSaid : Prop := optimizeNormalFormsRow.holds Try.pinned (OpenSpec.ofChange optimizeNormalFormsSpec)

/-- ITS FALSE NEIGHBOUR: 'it returns false'. Refute it at one input. -/
def optimizeNormalFormsWrong : ChangeSpec := { name := "optimizeNormalForms", fn := fun _ => fun
  | [d] => { results := [.lit (.bool false)], args := [d] }
  | _ => none }
def OptimizeNormalFormsWrongFalsely : Prop := optimizeNormalFormsRow.holds Try.pinned (OpenSpec.ofChange optimizeNormalFormsWrong)

/-- 'attestorlaw19.OptimizeIdempotent': WHATEVER THE INPUT: true; the input reads as it did. -/
def optimizeIdempotentSpec : ChangeSpec := { name := "optimizeIdempotent", fn := fun _ => fun
  | [d] => { results := [.lit (.bool true)], args := [d] }
  | _ => none }
def optimizeIdempotentRow : OpenClaim := { program := "ytjnbifkojpfdgaa", sum := "5ea4d6e22a098e6205bb6cad84a09c584f77427527b14c75652c6e73d5b4c76f", func := "attestor/attestorlaw19.OptimizeIdempotent", spec := "optimizeIdempotent", inPlace := ["math/bits.Sub64", "math/bits.Add64"], unfollowed := true, recurses := true, plainKeys := false, apart := false }
def OptimizeIdempotentSaid : Prop := optimizeIdempotentRow.holds Try.pinned (OpenSpec.ofChange optimizeIdempotentSpec)

/-- ITS FALSE NEIGHBOUR: 'it returns false'. Refute it at one input. -/
def optimizeIdempotentWrong : ChangeSpec := { name := "optimizeIdempotent", fn := fun _ => fun
  | [d] => { results := [.lit (.bool false)], args := [d] }
  | _ => none }
def OptimizeIdempotentWrongFalsely : Prop := optimizeIdempotentRow.holds Try.pinned (OpenSpec.ofChange optimizeIdempotentWrong)

/-- 'attestorlaw19.OptimizeRedundancy': WHATEVER THE INPUT: true; the input reads as it did. -/
def optimizeRedundancySpec : ChangeSpec := { name := "optimizeRedundancy", fn := fun _ => fun
  | [d1, d2, d3] => { results := [.lit (.bool true)], args := [d1, d2, d3] }
  | _ => none }
def optimizeRedundancyRow : OpenClaim := { program := "ytjnbifkojpfdgaa", sum := "5ea4d6e22a098e6205bb6cad84a09c584f77427527b14c75652c6e73d5b4c76f", func := "attestor/attestorlaw19.OptimizeRedundancy", spec := "optimizeRedundancy", inPlace := ["math/bits.Sub64", "math/bits.Add64"], unfollowed := true, recurses := true, plainKeys := false, apart := false }
def OptimizeRedundancySaid : Prop := optimizeRedundancyRow.holds Try.pinned (OpenSpec.ofChange optimizeRedundancySpec)

/-- ITS FALSE NEIGHBOUR: 'it returns false'. Refute it at one input. -/
def optimizeRedundancyWrong : ChangeSpec := { name := "optimizeRedundancy", fn := fun _ => fun
  | [d1, d2, d3] => { results := [.lit (.bool false)], args := [d1, d2, d3] }
  | _ => none }
def OptimizeRedundancyWrongFalsely : Prop := optimizeRedundancyRow.holds Try.pinned (OpenSpec.ofChange optimizeRedundancyWrong)

/- THE SECOND FORM. 'bulk': how many values and letters a reading holds, each counted each time it is reached (what is shared counts as often as it is met; a slice's spare places count too). A statement '..UptoSaid' is the law's where the arguments, and the package variables that the reading takes, are together of bulk at most 1048576: NARROWER than '..Said'. Prove '..Said' where nothing that the law and all that it calls make is longer than what came in: it says more and counts as full. Else prove '..UptoSaid'. A law counts once. -/
mutual
def uptoBulk {H : Type} : DataW H → Nat
  | .lit (.string bytes) => bytes.length + 1
  | .lit _ => 1
  | .nil => 1
  | .ptr d => uptoBulk d + 1
  | .slice elems spare => uptoBulkAll elems + uptoBulkAll spare + 1
  | .agg parts => uptoBulkAll parts + 1
  | .iface _ d => uptoBulk d + 1
  | .map entries => uptoBulkEntries entries + 1
  | .held _ => 1
def uptoBulkAll {H : Type} : List (DataW H) → Nat
  | [] => 0
  | d :: r => uptoBulk d + uptoBulkAll r
def uptoBulkEntries {H : Type} : List (Lit × DataW H) → Nat
  | [] => 0
  | x :: r => uptoBulkEntry x + uptoBulkEntries r
def uptoBulkEntry {H : Type} : Lit × DataW H → Nat
  | (.string bytes, d) => bytes.length + uptoBulk d + 1
  | (_, d) => uptoBulk d + 1
 end
def uptoSmall : (H : Type) → List (DataW H) → Bool := fun _ ds => decide (uptoBulkAll ds ≤ 1048576)
def OpenSpec.upto (s : _root_.Go.ChangeSpec) : _root_.Go.OpenSpec := { _root_.Go.OpenSpec.ofChange s with cond := some uptoSmall }

/-- 'attestorlaw19.OptimizeMatchesReference', WHERE WHAT IT READS IS OF BULK AT MOST 1048576: true; the input reads as it did. -/
def optimizeMatchesReferenceUptoRow : OpenClaim := { program := "ytjnbifkojpfdgaa", sum := "5ea4d6e22a098e6205bb6cad84a09c584f77427527b14c75652c6e73d5b4c76f", func := "attestor/attestorlaw19.OptimizeMatchesReference", spec := "optimizeMatchesReference", inPlace := ["math/bits.Sub64", "math/bits.Add64"], unfollowed := true, recurses := true, plainKeys := false, apart := false, narrowed := true }
def OptimizeMatchesReferenceUptoSaid : Prop := optimizeMatchesReferenceUptoRow.holds Try.pinned (OpenSpec.upto optimizeMatchesReferenceSpec)

/-- 'attestorlaw19.OptimizeFoldPreserves', WHERE WHAT IT READS IS OF BULK AT MOST 1048576: true; the input reads as it did. -/
def optimizeFoldPreservesUptoRow : OpenClaim := { program := "ytjnbifkojpfdgaa", sum := "5ea4d6e22a098e6205bb6cad84a09c584f77427527b14c75652c6e73d5b4c76f", func := "attestor/attestorlaw19.OptimizeFoldPreserves", spec := "optimizeFoldPreserves", inPlace := ["math/bits.Sub64", "math/bits.Add64"], unfollowed := true, recurses := true, plainKeys := false, apart := false, narrowed := true }
def OptimizeFoldPreservesUptoSaid : Prop := optimizeFoldPreservesUptoRow.holds Try.pinned (OpenSpec.upto optimizeFoldPreservesSpec)

/-- 'attestorlaw19.OptimizeSharePreserves', WHERE WHAT IT READS IS OF BULK AT MOST 1048576: true; the input reads as it did. -/
def optimizeSharePreservesUptoRow : OpenClaim := { program := "ytjnbifkojpfdgaa", sum := "5ea4d6e22a098e6205bb6cad84a09c584f77427527b14c75652c6e73d5b4c76f", func := "attestor/attestorlaw19.OptimizeSharePreserves", spec := "optimizeSharePreserves", inPlace := ["math/bits.Sub64", "math/bits.Add64"], unfollowed := true, recurses := true, plainKeys := false, apart := false, narrowed := true }
def OptimizeSharePreservesUptoSaid : Prop := optimizeSharePreservesUptoRow.holds Try.pinned (OpenSpec.upto optimizeSharePreservesSpec)

/-- 'attestorlaw19.OptimizeDeadPreserves', WHERE WHAT IT READS IS OF BULK AT MOST 1048576: true; the input reads as it did. -/
def optimizeDeadPreservesUptoRow : OpenClaim := { program := "ytjnbifkojpfdgaa", sum := "5ea4d6e22a098e6205bb6cad84a09c584f77427527b14c75652c6e73d5b4c76f", func := "attestor/attestorlaw19.OptimizeDeadPreserves", spec := "optimizeDeadPreserves", inPlace := ["math/bits.Sub64", "math/bits.Add64"], unfollowed := true, recurses := true, plainKeys := false, apart := false, narrowed := true }
def OptimizeDeadPreservesUptoSaid : Prop := optimizeDeadPreservesUptoRow.holds Try.pinned (OpenSpec.upto optimizeDeadPreservesSpec)

/-- 'attestorlaw19.OptimizeNormalForms', WHERE WHAT IT READS IS OF BULK AT MOST 1048576: true; the input reads as it did. -/
def optimizeNormalFormsUptoRow : OpenClaim := { program := "ytjnbifkojpfdgaa", sum := "5ea4d6e22a098e6205bb6cad84a09c584f77427527b14c75652c6e73d5b4c76f", func := "attestor/attestorlaw19.OptimizeNormalForms", spec := "optimizeNormalForms", inPlace := ["math/bits.Sub64", "math/bits.Add64"], unfollowed := true, recurses := true, plainKeys := false, apart := false, narrowed := true }
def OptimizeNormalFormsUptoSaid : Prop := optimizeNormalFormsUptoRow.holds Try.pinned (OpenSpec.upto optimizeNormalFormsSpec)

/-- 'attestorlaw19.OptimizeIdempotent', WHERE WHAT IT READS IS OF BULK AT MOST 1048576: true; the input reads as it did. -/
def optimizeIdempotentUptoRow : OpenClaim := { program := "ytjnbifkojpfdgaa", sum := "5ea4d6e22a098e6205bb6cad84a09c584f77427527b14c75652c6e73d5b4c76f", func := "attestor/attestorlaw19.OptimizeIdempotent", spec := "optimizeIdempotent", inPlace := ["math/bits.Sub64", "math/bits.Add64"], unfollowed := true, recurses := true, plainKeys := false, apart := false, narrowed := true }
def OptimizeIdempotentUptoSaid : Prop := optimizeIdempotentUptoRow.holds Try.pinned (OpenSpec.upto optimizeIdempotentSpec)

/-- 'attestorlaw19.OptimizeRedundancy', WHERE WHAT IT READS IS OF BULK AT MOST 1048576: true; the input reads as it did. -/
def optimizeRedundancyUptoRow : OpenClaim := { program := "ytjnbifkojpfdgaa", sum := "5ea4d6e22a098e6205bb6cad84a09c584f77427527b14c75652c6e73d5b4c76f", func := "attestor/attestorlaw19.OptimizeRedundancy", spec := "optimizeRedundancy", inPlace := ["math/bits.Sub64", "math/bits.Add64"], unfollowed := true, recurses := true, plainKeys := false, apart := false, narrowed := true }
def OptimizeRedundancyUptoSaid : Prop := optimizeRedundancyUptoRow.holds Try.pinned (OpenSpec.upto optimizeRedundancySpec)

end Rows
end Go.Proofs.Ytjnbifkojpfdgaa
