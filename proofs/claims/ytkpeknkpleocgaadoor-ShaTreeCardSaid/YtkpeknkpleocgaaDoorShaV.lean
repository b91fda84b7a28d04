/-
  What an argument that is an array of slices of bytes reads as.
-/
import Derived.Test.YtkpeknkpleocgaaDoorShaW
set_option linter.unusedSimpArgs false
set_option linter.unusedVariables false
namespace Go.Proofs.YtkpeknkpleocgaaDoor
open Go Go.AL Go.ChangeShapes Go.WideShapes Go.ChangeAt Go.RowKit

theorem nth_mem {α : Type} [Inhabited α] {l : List α} {i : Nat} (h : i < l.length) : nth l i ∈ l := by
  have : nth l i = l[i] := by simp [nth, h]
  rw [this]; exact List.getElem_mem h
theorem two_eq {α : Type} [Inhabited α] {l : List α} (h : l.length = 2) : l = [nth l 0, nth l 1] := by
  match l, h with
  | [a, b], _ => rfl

/-- A list of what each place has. -/
theorem list_of {α : Type} {p : Nat → α → Prop} : ∀ (n : Nat), (∀ i, i < n → ∃ x, p i x) → ∃ l : List α, l.length = n ∧ ∀ (i : Nat) x, l[i]? = some x → p i x
  | 0, _ => ⟨[], rfl, fun i x h => by simp at h⟩
  | n + 1, h => by
    obtain ⟨l, h1, h2⟩ := list_of n fun i hi => h i (by omega)
    obtain ⟨x, hx⟩ := h n (by omega)
    refine ⟨l ++ [x], by simp [h1], fun i y hy => ?_⟩
    by_cases hi : i < l.length
    · rw [List.getElem?_append_left hi] at hy; exact h2 i y hy
    · rw [List.getElem?_append_right (by omega)] at hy
      have hl : i - l.length < 1 := by have := (List.getElem?_eq_some_iff.1 hy).1; simpa using this
      have : i = n := by omega
      subst this
      rw [h1, Nat.sub_self] at hy
      simp at hy; subst hy; exact hx

theorem rel_rows {W : World} {v : Value} {H : Type} {enc : TypeId × Value → H} {d : DataW H} {ps : List MemPlace} {base t n : Nat} {ts0 : List TypeId} (ht : Tryd.prog.underlying t = some (.array n 22)) (hc : Tryd.prog.cellsOf t = n)
    (hct : Tryd.prog.cellTypes Tryd.prog.depth t = some ts0) (h22 : ∀ u ∈ ts0, u = 22) (hval : Value.okWide Tryd.prog W .any base t v) (h : DataW.Trod enc Tryd.prog W 0 (fun _ => true) true t v d ps) :
    ∃ k : List (List (BitVec 8)), k.length = n ∧ (∀ x ∈ k, x.length ≤ 9223372036854775807) ∧ RelV σ0 H0 W (.p (.agg (pl bs k))) v := by
  simp only [Value.okWide, ht] at hval
  obtain ⟨cs, rfl, hsz, ts, hts, _, hcell⟩ := hval
  rw [hct] at hts; cases hts
  rw [hc] at hsz
  obtain ⟨fuel, hf⟩ := h
  obtain ⟨xs, m, _, _, hcl, hxl, hel⟩ := DataW.trod_array ht hf
  have hcs : (Value.agg cs).cells.toList = cs.toList := rfl
  rw [hcs] at hel
  have key : ∀ i, i < n → ∃ l : List (BitVec 8), ∃ hi : i < cs.size, l.length ≤ 9223372036854775807 ∧ RelP W (Stable σ0 H0) (.sl false 1 (pl b8 l)) cs[i] := fun i hi => by
    have hi' : i < cs.size := by omega
    obtain ⟨u, hu, hok⟩ := hcell i cs[i] (by simp [hi'])
    obtain rfl := h22 u (List.mem_of_getElem? hu)
    have h1 := hel i hi
    rw [cells22, Nat.mul_one, show (cs.toList.drop i).take 1 = [cs.toList[i]] by rw [List.drop_eq_getElem_cons (by simpa using hi')]; rfl, List.getElem?_eq_getElem (by omega)] at h1
    obtain ⟨l, a1, a2⟩ := read_bytes Tryd.underlying22 Tryd.underlying5 cells5 h1 (spot_ok Tryd.underlying22 hok)
    exact ⟨l, hi', a1, by simpa using a2⟩
  obtain ⟨k, hk, hp⟩ := list_of n key
  refine ⟨k, hk, fun x hx => ?_, .p (.agg _ _ (by simp [pl, hk, hsz]) (fun i v hv => ?_) fun i x v hx hv => ?_)⟩
  · obtain ⟨i, hi⟩ := List.getElem?_of_mem hx
    exact (hp i x hi).2.1
  · have hi : i < cs.size := (Array.getElem?_eq_some_iff.1 hv).1
    obtain ⟨x, hx⟩ : ∃ x, k[i]? = some x := ⟨_, List.getElem?_eq_getElem (by omega)⟩
    obtain ⟨_, _, q⟩ := hp i x hx
    have : v = cs[i] := by simpa [hi] using hv.symm
    subst this
    generalize hz : PV.sl false 1 (pl b8 x) = z at q
    generalize cs[i] = vv at q
    cases q <;> first | rfl | cases hz
  · simp only [pl, List.getElem?_map, Option.map_eq_some_iff] at hx
    obtain ⟨y, hy, rfl⟩ := hx
    obtain ⟨hi, _, q⟩ := hp i y hy
    have : v = cs[i] := by simpa [hi] using hv.symm
    subst this
    exact q

end Go.Proofs.YtkpeknkpleocgaaDoor
