/-
  For every input the shared circuit has the same outputs in all rows and no more gates in any layer.
  Conditions: none.
-/
import Derived.Test.YtjnbifkojpfdgaaPkS3
set_option linter.unusedSimpArgs false
set_option linter.unusedVariables false
namespace Go.Proofs.Ytjnbifkojpfdgaa.lawSharePreserves
open Go Go.AL Go.ChangeShapes Go.WideShapes Go.ChangeAt Go.RowKit

theorem contract (H : Type) (enc : TypeId × Value → H) (W : World) (base : Nat) (args : Array Value) (ds gs : List (DataW H)) (before : List MemPlace)
    (hval : ∀ (j : Nat) t v, Try.f5.params[j]? = some t → args[j]? = some v → Value.okWide Try.prog W .any base t v)
    (hW : DataW.Whole enc Try.prog Try.f5.params.toList Rows.optimizeSharePreservesSpec.vars false W args.toList ds gs before) (hL : laidMetH Try.prog Rows.optimizeSharePreservesRow.laid W) :
    Calls Try.prog 5 args W fun e W' => ∃ v, e = .returned v ∧ Rows.optimizeSharePreservesSpec.post enc Try.prog Try.f5 false true false false W args v W' := by
  have hW' := hW
  obtain ⟨p, q, hA0, hV, rfl, hfz, hnd⟩ := hW
  have hA : DataW.TrodAll enc Try.prog W 0 (fun _ => true) true Try.f5.params.toList args.toList ds p := hA0
  rw [Try.params5] at hA hval
  obtain ⟨v0, vs0, d0, ds0, p0, q0, hargs0, rfl, rfl, t0, r0⟩ := trodAll_cons hA
  obtain ⟨rfl, rfl, rfl⟩ := trodAll_nil r0
  obtain rfl : args = #[v0] := by cases args; simp_all
  obtain ⟨c, cols, lg, hl, hr, hl2, hr2, e0⟩ := rel_inp (hval 0 27 v0 rfl rfl) t0
  have hrel : RelVs σ0 H0 W [.p (inpV c cols lg)] #[v0] := ⟨rfl, fun i x v h1 h2 => by
    have hi : i < 1 := by have := (List.getElem?_eq_some_iff.1 h1).1; simpa using this
    have : i = 0 := by omega
    subst this; simp at h1 h2; subst h1; subst h2; exact e0⟩
  refine (law_calls (W19_SharePreserves_spec c cols lg hl hr hl2 hr2 _ _ rfl) (rel_start) hrel).mono fun e W2 ⟨he, hblk, hos, hout⟩ => ⟨_, he, ?_⟩
  exact law_post laidOut (fun t ht => by rw [Try.params5] at ht; simp at ht; rcases ht with rfl <;> exact ⟨by kernel_rfl, by decide +kernel⟩) rfl hW' rfl rfl Try.underlying4 hblk hos hout

theorem reads (os : Os) {H : Type} (enc : TypeId × Value → H) : ∃ places, DataW.whole enc Try.prog ((laidWorld os).forCall (fun _ _ => 0) ⟨#[], #[.agg #[.int .i64 0, .slice none 0 0, .int .i64 0, .slice none 0 0, .int .u8 0]], []⟩).memory Try.f5.params.toList Rows.optimizeSharePreservesSpec.vars false (#[.agg #[.int .i64 0, .slice none 0 0, .int .i64 0, .slice none 0 0, .int .u8 0]] : Array Value).toList 8 = some ([.agg [.agg [.lit (.int .i64 0), .nil, .lit (.int .i64 0)], .nil, .lit (.int .u8 0)]], [], places) :=
  ⟨[], by kernel_rfl⟩

set_option maxRecDepth 100000 in
theorem lifted (os : Os) (started : os.Started) (H : Type) (enc : TypeId × Value → H) (F : Stop.Interp) :
    ReturnsInHanded {} Try.checked os 5 .any ((OpenSpec.ofChange Rows.optimizeSharePreservesSpec).preRow enc Try.prog Try.f5 Rows.optimizeSharePreservesRow.domain false Rows.optimizeSharePreservesRow.laid) (((OpenSpec.ofChange Rows.optimizeSharePreservesSpec).at F).post enc Try.prog Try.f5 false true false false) := by
  obtain ⟨places, hx⟩ := reads os enc
  refine returnsInHanded_of_row (C := Try.checked) (s := OpenSpec.ofChange Rows.optimizeSharePreservesSpec) own started (by kernel_rfl) Try.func5
    (witness_row_at (enc := enc) (C := Try.checked) false (laidWorld os) #[.agg #[.int .i64 0, .slice none 0 0, .int .i64 0, .slice none 0 0, .int .u8 0]] rfl (by kernel_rfl) (by kernel_rfl) (by kernel_rfl)
      (OpenSpec.preRow_of_cond 8 hx (by kernel_rfl) (fun k hk => by cases hk) (by kernel_rfl) (by first | exact trivial | exact laidMet_of_run' 8 (by kernel_rfl) (by kernel_rfl)))) ?_
  intro W base args ds gs before hval hW _ _ _ hL _ _
  exact contract H enc W base args ds gs before hval hW hL

theorem said : Rows.OptimizeSharePreservesSaid :=
  OpenClaim.holds_of_cond 5 Try.f5 rfl rfl rfl rfl rfl rfl rfl ⟨rfl, rfl, rfl, rfl, rfl⟩ rfl rfl rfl rfl rfl (by kernel_rfl) Try.func5 (by kernel_rfl)
    (of_decide_eq_true (by kernel_rfl)) (by unfold Func.isWrapper; first | (rw [if_pos (by decide +kernel)]; kernel_rfl) | (rw [if_neg (by decide +kernel)]; exact ⟨rfl, rfl⟩))
    (fun os started H enc _ F => by rw [OpenClaim.pre_eq_preRow]; exact lifted os started H enc F)

#print axioms said
end Go.Proofs.Ytjnbifkojpfdgaa.lawSharePreserves
