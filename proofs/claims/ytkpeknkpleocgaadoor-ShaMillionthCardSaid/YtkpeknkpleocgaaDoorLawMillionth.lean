/-
  For every n the digest of a long message of equal bytes is that of the reference.
  Conditions: the package-level tables read as the row lists them; the card ties that to the program's text.
-/
import Derived.Test.YtkpeknkpleocgaaDoorShaW
import Derived.Test.YtkpeknkpleocgaaDoorShaR
set_option linter.unusedSimpArgs false
set_option linter.unusedVariables false
namespace Go.Proofs.YtkpeknkpleocgaaDoor.lawMillionth
open Go Go.AL Go.ChangeShapes Go.WideShapes Go.ChangeAt Go.RowKit

theorem contract (H : Type) (enc : TypeId × Value → H) (W : World) (base : Nat) (args : Array Value) (ds gs : List (DataW H)) (before : List MemPlace)
    (hval : ∀ (j : Nat) t v, Tryd.f10.params[j]? = some t → args[j]? = some v → Value.okWide Tryd.prog W .any base t v)
    (hW : DataW.Whole enc Tryd.prog Tryd.f10.params.toList Rows.shaMillionthSpec.vars false W args.toList ds gs before) (hL : laidMetH Tryd.prog Rows.shaMillionthRow.laid W) :
    Calls Tryd.prog 10 args W fun e W' => ∃ v, e = .returned v ∧ Rows.shaMillionthSpec.post enc Tryd.prog Tryd.f10 false true false false W args v W' := by
  have hW' := hW
  obtain ⟨p, q, hA0, hV, rfl, hfz, hnd⟩ := hW
  have hA : DataW.TrodAll enc Tryd.prog W 0 (fun _ => true) true Tryd.f10.params.toList args.toList ds p := hA0
  rw [Tryd.params10] at hA hval
  obtain ⟨v0, vs0, d0, ds0, p0, q0, hargs0, rfl, rfl, t0, r0⟩ := trodAll_cons hA
  obtain ⟨rfl, rfl, rfl⟩ := trodAll_nil r0
  obtain rfl : args = #[v0] := by cases args; simp_all
  obtain ⟨n0, e0⟩ := rel_byte Tryd.underlying5 (hval 0 5 v0 rfl rfl) t0
  have hrel : RelVs σ0 H0 W [.p (b8 n0)] #[v0] := ⟨rfl, fun i x v h1 h2 => by
    have hi : i < 1 := by have := (List.getElem?_eq_some_iff.1 h1).1; simpa using this
    have : i = 0 := by omega
    subst this; simp at h1 h2; subst h1; subst h2; exact e0⟩
  refine (law_calls (Millionth_spec GG_ok n0 _ _ rfl) (rel_start hL) hrel).mono fun e W2 ⟨he, hblk, hos, hout⟩ => ⟨_, he, ?_⟩
  exact law_post laidOut (fun t ht => by rw [Tryd.params10] at ht; simp at ht; first | (rcases ht with rfl | rfl | rfl <;> exact ⟨by kernel_rfl, by rw [typesSize]; decide⟩) | (rcases ht with rfl | rfl <;> exact ⟨by kernel_rfl, by rw [typesSize]; decide⟩) | (subst ht; exact ⟨by kernel_rfl, by rw [typesSize]; decide⟩)) rfl hW' rfl rfl Tryd.underlying4 hblk hos hout

theorem reads (os : Os) {H : Type} (enc : TypeId × Value → H) : ∃ places, DataW.whole enc Tryd.prog ((laidWorld os).forCall (fun _ _ => 0) ⟨#[], #[.int .u8 0], []⟩).memory Tryd.f10.params.toList Rows.shaMillionthSpec.vars false (#[.int .u8 0] : Array Value).toList 8 = some ([.lit (.int .u8 0)], [], places) :=
  ⟨[], by kernel_rfl⟩

set_option maxRecDepth 100000 in
theorem lifted (os : Os) (started : os.Started) (H : Type) (enc : TypeId × Value → H) (F : Stop.Interp) :
    ReturnsInHanded {} Tryd.checked os 10 .any ((OpenSpec.ofChange Rows.shaMillionthSpec).preRow enc Tryd.prog Tryd.f10 Rows.shaMillionthRow.domain false Rows.shaMillionthRow.laid) (((OpenSpec.ofChange Rows.shaMillionthSpec).at F).post enc Tryd.prog Tryd.f10 false true false false) := by
  obtain ⟨places, hx⟩ := reads os enc
  refine returnsInHanded_of_row (C := Tryd.checked) (s := OpenSpec.ofChange Rows.shaMillionthSpec) own started (by kernel_rfl) Tryd.func10
    (witness_row_at (enc := enc) (C := Tryd.checked) false (laidWorld os) #[.int .u8 0] rfl (by kernel_rfl) (by kernel_rfl) (by kernel_rfl)
      (OpenSpec.preRow_of_cond 8 hx (by kernel_rfl) (fun k hk => by cases hk) (by kernel_rfl) (laid_met os _))) ?_
  intro W base args ds gs before hval hW _ _ _ hL _ _
  exact contract H enc W base args ds gs before hval hW hL

theorem said : Rows.ShaMillionthSaid :=
  OpenClaim.holds_of_cond 10 Tryd.f10 rfl rfl rfl rfl rfl rfl rfl ⟨rfl, rfl, rfl, rfl, rfl⟩ rfl rfl rfl rfl rfl (by kernel_rfl) Tryd.func10 (by kernel_rfl)
    (of_decide_eq_true (by kernel_rfl)) (by unfold Func.isWrapper; first | (rw [if_pos (by decide +kernel)]; kernel_rfl) | (rw [if_neg (by decide +kernel)]; exact ⟨rfl, rfl⟩))
    (fun os started H enc _ F => by rw [OpenClaim.pre_eq_preRow]; exact lifted os started H enc F)

theorem plain (f : FuncId) (fn : Func) (hf : Tryd.pinned.checked.prog.funcNamed Rows.shaMillionthRow.func = some f) (hfn : Tryd.pinned.checked.prog.funcs[f]? = some fn) :
    false = Tryd.pinned.checked.prog.looks [] ∧ ∀ (j : Nat) t, fn.params[j]? = some t → Tryd.pinned.checked.prog.wantsStandIn t = false := by
  obtain rfl : f = 10 := Option.some.inj ((show Tryd.prog.funcNamed Rows.shaMillionthRow.func = some 10 by kernel_rfl).symm.trans hf) |>.symm
  obtain rfl : fn = Tryd.f10 := (Option.some.inj (Tryd.func10.symm.trans hfn)).symm
  refine ⟨by kernel_rfl, fun j t ht => ?_⟩
  rw [Tryd.params10] at ht
  have hm := Array.mem_of_getElem? ht
  simp at hm
  subst hm
  exact (show Tryd.prog.wantsStandIn 5 = false by kernel_rfl)

theorem card : Rows.ShaMillionthCardSaid :=
  Claim7.holds_tied_plain_at .later [] _ _ _ _ said (fun _ h => by cases h) (by kernel_rfl) (fun _ h => by cases h) shaMillionth_row_tie rfl ⟨rfl, rfl⟩ (by kernel_rfl) rfl plain (by kernel_rfl)
#print axioms card
end Go.Proofs.YtkpeknkpleocgaaDoor.lawMillionth
