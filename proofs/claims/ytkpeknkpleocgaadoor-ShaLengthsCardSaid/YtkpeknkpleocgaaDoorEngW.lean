/-
  Rows that are built by append and written by name: where they begin and where they become plain data.
  Conditions: none; nothing here speaks of one program.
-/
import Derived.Test.YtkpeknkpleocgaaDoorEngS
set_option linter.unusedSimpArgs false
set_option linter.unusedVariables false
namespace Go.AL
open Go

section vec
variable {C : Cx} {todo : List Item} {env : Env} {H : Hp} {R : AV → Hp → Prop} {α : Type} {f : α → PV} {l : List α}

/-- An empty slice with no room becomes a row that is written by name. -/
theorem ARun.vec (t : Nat) {sz : Nat} (ht : env t = .p (.sl true sz [])) (h : ARun C todo (env.put (some t) (.vr H.n 0 sz)) (H.new (.vec [])) R) : ARun C todo env H R :=
  .ghost (fun σ w a m hpre => by
    obtain ⟨r1, e1⟩ := rel_newTl hpre.rel (w' := w) (Nat.le_refl _) (fun _ _ => rfl) rfl rfl 0 (some []) none (fun _ _ _ hh => by cases hh) (fun cs hcs => by cases hcs; exact ⟨rfl, fun _ => rfl, fun _ _ _ hh => by cases hh⟩)
    refine ⟨_, r1, fun i => ?_, e1⟩
    simp only [Env.put]
    by_cases hi : i = t
    · subst hi
      rw [if_pos rfl]
      have hs := hpre.fr.slot i
      rw [ht] at hs
      generalize a.tmps.getD i undef = v at hs
      have hv : ∃ ad, v = .slice ad 0 0 ∧ AdOK ad 0 := by
        cases hs with | p hp =>
        cases hp with
        | nil => exact ⟨none, rfl, by simp [AdOK]⟩
        | sl _ _ _ g off cap F hfl hcap hsz hrd hc =>
          have := hfl rfl
          simp only [List.length_nil] at this
          subst this
          exact ⟨_, rfl, by simp [AdOK]⟩
      obtain ⟨ad, rfl, hado⟩ := hv
      refine .vr ⟨by simp [Hp.n_new], ad, 0, rfl, hado, fun k0 c hk0 => ?_⟩
      simp [Hp.f_new] at hk0
      exact ⟨by simp, fun _ => .inl ⟨rfl, rfl, by simp [Gh.withT]⟩⟩
    · rw [if_neg hi]; exact (hpre.fr.slot i).mono e1) h

/-- The cells of a row that was written by name and is given up lie still. -/
theorem stable_deadV {G : Globs} {σ : Gh} {w : World} (hr : Rel G σ H w) {b k g s : Nat} {c : Option (List AV)} (hb : H.f b = some (.tl k c)) (ht : σ.t b = some (g, 0, s)) (o : Nat) : Stable σ (H.set b .dead) g o := by
  have hf : ∀ b' x, x ≠ .dead → (H.set b .dead).f b' = some x → b' ≠ b ∧ H.f b' = some x := by
    intro b' x hx h
    rw [Hp.f_set] at h
    split at h
    · cases h; exact absurd rfl hx
    · rename_i hh
      exact ⟨fun e => hh ⟨e, Hp.lt hb⟩, h⟩
  refine ⟨fun b' x h e => ?_, fun b' k' d o2 s' h ht' => ?_⟩
  · obtain ⟨h1, h2⟩ := hf b' _ (by simp) h
    exact hr.ct b' b x k c g 0 s h2 hb ht e
  · obtain ⟨h1, h2⟩ := hf b' _ (by simp) h
    exact absurd (hr.tt b' b k' d k c g o2 s' 0 s h2 hb ht' ht) h1

/-- A row that was written by name is written no more. -/
theorem ARun.frzV (t : Nat) {b len sz : Nat} {cs : List AV} {xs : List PV} (ht : env t = .vr b len sz) (hb : (H.f b).bind AB.vec? = some cs) (hcs : cs = (flat xs).map .p) (hl : xs.length = len) (hsz : ∀ x ∈ xs, x.cells.length = sz)
    (h : ARun C todo (env.put (some t) (.p (.sl false sz xs))) (H.set b .dead) R) : ARun C todo env H R :=
  .ghost (fun σ w a m hpre => by
    obtain ⟨r1, e1⟩ := rel_dead hpre.rel b
    refine ⟨σ, r1, fun i => ?_, e1⟩
    simp only [Env.put]
    by_cases hi : i = t
    · subst hi
      rw [if_pos rfl]
      have hs := hpre.fr.slot i
      rw [ht] at hs
      generalize a.tmps.getD i undef = v at hs
      cases hs with | vr hs =>
      subst hl
      have hfl : (flat xs).length = xs.length * sz := flat_len hsz
      obtain ⟨ad, cap, rfl, hado, hrow⟩ := vr_row hpre.rel hb hs (by rw [hcs, List.length_map, hfl])
      rcases hrow with ⟨h0, rfl, hσ⟩ | ⟨g, s, rfl, hσ, h5, h6, h7, h8, hcells⟩
      · have : xs = [] := List.eq_nil_of_length_eq_zero h0
        subst this
        cases ad with
        | none => exact .p (.nil _ _)
        | some ad =>
          have hsp := hado.2 ad rfl
          obtain ⟨g, off, sp⟩ := ad
          simp only at hsp
          subst hsp
          exact .p (.sl false sz [] g off 0 (fun _ => undef) (by simp) (by simp) (by simp) (fun k hk => by simp at hk) (fun k y hk => by simp [flat] at hk))
      · obtain ⟨k, hk⟩ := vec?_inv hb
        have hcell : ∀ j y, (flat xs)[j]? = some y → ∃ v, w.cell? ⟨g, j, none⟩ = some v ∧ RelP w (Stable σ (H.set b .dead)) y v ∧ v.oneCell' = true := fun j y hj => by
          obtain ⟨v, h1, h2, h3⟩ := hcells j (.p y) (by rw [hcs]; simp [hj])
          have := h2.mono e1
          cases this with | p hp => exact ⟨v, h1, hp, h3⟩
        refine .p (.sl false sz xs g 0 cap (fun j => (w.cell? ⟨g, j, none⟩).getD undef) (by simp) ⟨h6, h7⟩ hsz (fun j hj => ?_) (fun j y hj => ?_))
        · rw [Nat.zero_add]
          obtain ⟨v, h1, _, h3⟩ := hcell j ((flat xs)[j]'(by omega)) (by simp)
          exact ⟨stable_deadV hpre.rel hk hσ j, by simp [h1], by simp [h1, h3]⟩
        · obtain ⟨v, h1, h2, _⟩ := hcell j y hj
          simp only [h1, Option.getD_some]
          exact h2
    · rw [if_neg hi]; exact (hpre.fr.slot i).mono e1) h
end vec

theorem flat_nil : flat [] = [] := rfl
theorem flat_cons {x : PV} {xs : List PV} : flat (x :: xs) = x.cells ++ flat xs := rfl
theorem cl_one {α : Type} {f : α → PV} {l : List α} {x : α} : cl f l ++ [.p (f x)] = cl f (l ++ [x]) := by simp [cl]
theorem bel_newv {n : Nat} {H : Hp} {α : Type} {f : α → PV} {l : List α} (h : Bel n H) : Bel n (H.new (.vec (cl f l))) := bel_newx h fun y hy => by
  simp only [AB.vals, Option.getD_some, cl, List.mem_map] at hy
  obtain ⟨x, _, rfl⟩ := hy
  exact .p _
attribute [go_sem] flat_nil flat_cons cl_one

end Go.AL
