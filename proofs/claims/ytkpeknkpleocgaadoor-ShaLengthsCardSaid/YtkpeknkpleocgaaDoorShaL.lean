/-
  slices.Grow at nil, by the library's contract.
-/
import Derived.Test.YtkpeknkpleocgaaDoorTab
import Derived.Test.YtkpeknkpleocgaaDoorEngQ
import Derived.Shelf.Spec.SlicesGrow
set_option linter.unusedSimpArgs false
set_option linter.unusedVariables false
namespace Go.Proofs.YtkpeknkpleocgaaDoor
open Go Go.AL Go.Proofs Go.Shelf

def ren41 : Ren := ⟨fun n => if n = 4 then 41 else n, fun n => if n = 25 then 5 else n, fun n => n⟩

theorem info0 : (Tryd.prog.info? 0).isSome = true := by kernel_rfl

theorem grow_laid : Lays8.n4 Tryd.prog ren41 where
  mixed := follows
  f4 := ⟨"slices.Grow[[]byte,byte]", by decide, by kernel_rfl⟩
  t0 := Tryd.underlying0
  a0 := fun w => by kernel_rfl
  z0 := fun w => by kernel_rfl
  v0 := fun w => by kernel_rfl
  t3 := Tryd.underlying3
  a3 := fun w => by kernel_rfl
  z3 := fun w => by kernel_rfl
  v3 := fun w => by kernel_rfl
  t4 := Tryd.underlying4
  a4 := fun w => by kernel_rfl
  z4 := fun w => by kernel_rfl
  v4 := fun w => by kernel_rfl
  t9 := Tryd.underlying9
  a9 := fun w => by kernel_rfl
  z9 := fun w => by kernel_rfl
  v9 := fun w => by kernel_rfl
  t20 := Tryd.underlying20
  a20 := fun w => by kernel_rfl
  z20 := fun w => by kernel_rfl
  v20 := fun w => by kernel_rfl
  t22 := Tryd.underlying22
  a22 := fun w => by kernel_rfl
  z22 := fun w => by kernel_rfl
  v22 := fun w => by kernel_rfl

theorem info5e : Tryd.prog.info? 5 = some Tryd.t5 := by kernel_rfl

theorem Grow_spec {G : Globs} (n : Nat) (hn0 : 0 < n) (hn : n ≤ 10000000) (H : Hp) (R : AV → Hp → Prop) (h : R (.sl H.n 0 1 []) (H.new (.tail 0))) :
    ACall Tryd.prog G 41 [.p (.sl true 1 []), .p (i64 n)] H R := by
  intro σ w vs hr hvs
  have hs : vs.size = 2 := hvs.1
  have r0 := hvs.2 0 _ vs[0] rfl (by simp)
  have r1 := hvs.2 1 _ vs[1] rfl (by simp)
  have e1 : vs[1] = .int .i64 n := by
    generalize vs[1] = v at r1
    cases r1 with | p r => cases r; rfl
  obtain ⟨base, e0⟩ : ∃ base, vs[0] = .slice base 0 0 := by
    generalize vs[0] = v at r0
    cases r0 with | p r =>
    cases r with
    | nil => exact ⟨none, rfl⟩
    | sl _ _ _ g off cap f hfl => exact ⟨some ⟨g, off, none⟩, by have := hfl rfl; simp at this; subst this; rfl⟩
  have hv : vs = #[.slice base 0 0, .int .i64 n] := by
    apply Array.ext
    · simp [hs]
    · intro i h1 h2
      have : i = 0 ∨ i = 1 := by simp at h2; omega
      rcases this with rfl | rfl
      · simpa using e0
      · simpa using e1
  have hc := Any8.slices_Grow_grow grow_laid Tryd.t5 (.int .u8 0) info5e rfl (by decide) base 0 0 n [] w (Nat.le_refl _) (by omega) (by show (0 + n) * 1 ≤ _; omega) (by omega) rfl (fun _ => rfl) (by simp)
  rw [hv]
  refine Calls.mono hc ?_
  rintro e w' ⟨rfl, rfl⟩
  generalize hC : (([] : List Value).toArray ++ Builtin.zeroCells (Value.int .u8 0).cells (0 + n - 0) ++ Builtin.zeroCells (Value.int .u8 0).cells (grownCap w (0 + n) 0 (ren41.t 25) - (0 + n))) = C
  have hCs : grownCap w (0 + n) 0 (ren41.t 25) ≤ C.size := by
    rw [← hC]
    simp [Builtin.zeroCells, Value.cells]
    omega
  have hmax : grownCap w (0 + n) 0 (ren41.t 25) ≤ maxLen := grownCap_le_maxLen w _ _ _ (by unfold maxLen; omega)
  generalize grownCap w (0 + n) 0 (ren41.t 25) = cap at hCs hmax
  obtain ⟨h1, h2⟩ := rel_newTail hr (w' := w.drew.alloc (.cells C (ren41.t 25))) (by show w.drew.heap.size ≤ _; simp) (fun g hg => heap_alloc_old w.drew _ hg) rfl rfl
    (some (w.heap.size, 0, C.size)) (fun g o s hh => by cases hh; exact ⟨Nat.le_refl _, _, _, heap_alloc_new w.drew _, rfl⟩)
  refine ⟨_, _, _, _, h, rfl, h1, .sl ?_ ⟨by simp [Hp.n_new], fun k0 d hk0 => ?_⟩, h2⟩
  · exact .sl false _ [] _ 0 _ (fun _ => undef) (by simp) ⟨by simp, hmax⟩ (by simp) (by simp) (by simp [flat])
  · simp [Hp.f_new] at hk0
    exact ⟨by omega, fun _ => .inr ⟨w.heap.size, 0, 0, cap, C.size, by simp, by simp [Gh.withT], by omega⟩⟩

end Go.Proofs.YtkpeknkpleocgaaDoor
