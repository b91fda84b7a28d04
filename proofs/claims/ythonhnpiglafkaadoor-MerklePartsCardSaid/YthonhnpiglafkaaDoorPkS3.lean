/-
  Hash trees: Verify.
-/
import Derived.Test.YthonhnpiglafkaaDoorPkS2
import Derived.Test.YthonhnpiglafkaaDoorCards
import Derived.Test.YthonhnpiglafkaaDoorTie
set_option linter.unusedSimpArgs false
set_option linter.unusedVariables false
namespace Go.Proofs.YthonhnpiglafkaaDoor
open Go Go.AL

def verR (n : Nat) (idx : List Int) (B N : List By) : By × List By × List By × Bool := rebF n idx 0 n B N true
def verC (n : Int) (idx : List Int) (B : List By) : Nat := if n < 1 ∨ B.length ≠ idx.length then 1 else chkE n idx
def verE (root : By) (n : Int) (idx : List Int) (B N : List By) : Nat :=
  if verC n idx B = 0 then if (verR n.toNat idx B N).2.2.1 = [] ∧ (verR n.toNat idx B N).2.2.2 = true ∧ (verR n.toNat idx B N).1 = root then 0 else 80 else verC n idx B

theorem opA_valH {C : Cx} {ops : Array Oper} {i : Nat} {o : Oper} {K : Env → Hp → Prop} {env : Env} {H H' : Hp} (x : AV) (ho : ops[i]? = some o) (hg : o.guard = none) (hs : stepOp C.P C.G o.op o.type env H = .val x H') (hd : dstOK C.nt o.dst = true)
    (hK : K (env.put o.dst x) H') : opA C ops false i K env H := by
  unfold opA
  rw [ho]
  simp only [hg, wantedA, aOp1, hs, sOp]
  exact ⟨hd, hK⟩
section lists
variable {α : Type} {T : List α} {i : Nat} {x y : α}
theorem get_push (h : T[i]? = some x) : (T ++ [y])[i]? = some x := by rw [List.getElem?_append_left (List.getElem?_eq_some_iff.1 h).1]; exact h
theorem get_last : (T ++ [y])[T.length]? = some y := by simp
theorem lt_get (h : T[i]? = some x) : i < T.length := (List.getElem?_eq_some_iff.1 h).1
end lists
theorem bel_push {T : List AB} {m : Nat} {X : AB} (gb : ∀ (i : Nat) (x : AB), T[i]? = some x → ∀ y ∈ x.vals, BelowN (m + T.length) y) (hX : ∀ y ∈ X.vals, BelowN (m + T.length) y) :
    ∀ (i : Nat) (x : AB), (T ++ [X])[i]? = some x → ∀ y ∈ x.vals, BelowN (m + (T ++ [X]).length) y := by
  intro i x hx y hy
  rw [List.length_append, List.length_singleton]
  rcases Nat.lt_or_ge i T.length with hlt | hge
  · rw [List.getElem?_append_left hlt] at hx
    exact (gb i x hx y hy).mono (by omega)
  · rw [List.getElem?_append_right hge] at hx
    rcases hz : i - T.length with _ | z <;> rw [hz] at hx <;> simp at hx
    subst hx
    exact (hX y hy).mono (by omega)
theorem bel_setT {T : List AB} {m a : Nat} {X : AB} (gb : ∀ (i : Nat) (x : AB), T[i]? = some x → ∀ y ∈ x.vals, BelowN (m + T.length) y) (hX : ∀ y ∈ X.vals, BelowN (m + T.length) y) :
    ∀ (i : Nat) (x : AB), (T.set a X)[i]? = some x → ∀ y ∈ x.vals, BelowN (m + (T.set a X).length) y := by
  intro i x hx y hy
  rw [List.length_set]
  by_cases e : a = i
  · subst e
    have hlt : a < T.length := by have := (List.getElem?_eq_some_iff.1 hx).1; rw [List.length_set] at this; exact this
    rw [List.getElem?_set_self hlt] at hx
    cases hx
    exact hX y hy
  · rw [List.getElem?_set_ne e] at hx
    exact gb i x hx y hy

theorem bel_appT {T : List AB} {m : Nat} {H0 : Hp} (hn : H0.n = m) (h : Bel m H0) (gb : ∀ (i : Nat) (x : AB), T[i]? = some x → ∀ y ∈ x.vals, BelowN (m + T.length) y) : Bel (m + T.length) (app H0 T) := by
  intro b x hb hf y hy
  rcases Nat.lt_or_ge b m with hlt | hge
  · rw [app_f (by omega)] at hf
    exact (h b x hlt hf y hy).mono (by omega)
  · obtain ⟨i, rfl⟩ : ∃ i, b = H0.n + i := ⟨b - m, by omega⟩
    rw [app_at] at hf
    exact gb i x hf y hy
theorem set_same {α : Type} {T : List α} {i : Nat} {x : α} (h : T[i]? = some x) : T.set i x = T := by
  refine List.ext_getElem? fun j => ?_
  by_cases e : i = j
  · subst e; rw [List.getElem?_set_self (lt_get h), h]
  · rw [List.getElem?_set_ne e]
abbrev lvC (l : List By) : AB := .cells [.p (.sl false 1 (pl bs l))]
abbrev nvC (d : List By) : AB := .cells [.p (.sl false 32 (pl db d))]
def verF (H0 : Hp) (T : List AB) (a2 a5 : Nat) (l d : List By) : Hp := app H0 ((T.set a2 (lvC l)).set a5 (nvC d))
section fam
variable {H0 : Hp} {m a2 a5 a6 a7 : Nat} {T : List AB} {B N : List By}
theorem verF_n (hn : H0.n = m) (l d : List By) : (verF H0 T a2 a5 l d).n = m + T.length := by
  unfold verF; rw [app_n', hn, List.length_set, List.length_set]
theorem verF_at (hn : H0.n = m) {l d : List By} {a : Nat} {x : AB} (h : T[a]? = some x) (h2 : a ≠ a2) (h5 : a ≠ a5) : (verF H0 T a2 a5 l d).f (m + a) = some x := by
  unfold verF; rw [← hn, app_at, List.getElem?_set_ne h5.symm, List.getElem?_set_ne h2.symm, h]
theorem ver_fam (hn : H0.n = m) (hb : Bel m H0) (t2 : T[a2]? = some (lvC B)) (t5 : T[a5]? = some (nvC N))
    (t6 : T[a6]? = some (.cells [.clo 70 [] [.ptr (m + a2) 0]])) (t7 : T[a7]? = some (.cells [.clo 71 [] [.ptr (m + a5) 0]]))
    (gb : ∀ (i : Nat) (x : AB), T[i]? = some x → ∀ y ∈ x.vals, BelowN (m + T.length) y) :
    Fam (fun l d c => ((verF H0 T a2 a5 l d).new (.cells [.p (bo c)])).new (.cells [.clo 50 [] [.ptr (m + a7) 0, .ptr (m + T.length) 0, .ptr (m + a6) 0, .ptr (m + T.length + 1) 0]])) (m + T.length + 2) (m + a7) (m + T.length) (m + a6) (m + T.length + 1) (m + a2) (m + a5) := by
  have l2 := lt_get t2
  have l5 := lt_get t5
  have l6 := lt_get t6
  have l7 := lt_get t7
  have h25 : a2 ≠ a5 := fun e => by rw [e, t5] at t2; cases t2
  have h62 : a6 ≠ a2 := fun e => by rw [e, t2] at t6; cases t6
  have h65 : a6 ≠ a5 := fun e => by rw [e, t5] at t6; cases t6
  have h72 : a7 ≠ a2 := fun e => by rw [e, t2] at t7; cases t7
  have h75 : a7 ≠ a5 := fun e => by rw [e, t5] at t7; cases t7
  have hVn := verF_n (T := T) (a2 := a2) (a5 := a5) hn
  have up : ∀ {l d : List By} {c : Bool} {X : AB} {b : Nat} {x : AB}, b < m + T.length → (verF H0 T a2 a5 l d).f b = some x → (((verF H0 T a2 a5 l d).new (.cells [.p (bo c)])).new X).f b = some x := by
    intro l d c X b x hb h
    rw [f_new_ne (by rw [n_new', hVn]; omega), f_new_ne (by rw [hVn]; omega)]; exact h
  have st : ∀ {l d : List By} {c : Bool} {X Y : AB} {b : Nat}, b < m + T.length → (((verF H0 T a2 a5 l d).new (.cells [.p (bo c)])).new X).set b Y = (((verF H0 T a2 a5 l d).set b Y).new (.cells [.p (bo c)])).new X := by
    intro l d c X Y b hb
    rw [set_new_ne (by rw [n_new', hVn]; omega), set_new_ne (by rw [hVn]; omega)]
  refine ⟨fun l d c => by rw [n_new', n_new', hVn], fun l d c => ?_, fun l d c => up (by omega) (verF_at hn t7 h72 h75), fun l d c => ?_, fun l d c => up (by omega) (verF_at hn t6 h62 h65), fun l d c => ?_, fun l d c => up (by omega) ?_, fun l d c => up (by omega) ?_, fun l d c l' => ?_, fun l d c d' => ?_, fun l d c c' => ?_⟩
  · have hgb : ∀ (i : Nat) (x : AB), ((T.set a2 (lvC l)).set a5 (nvC d))[i]? = some x → ∀ y ∈ x.vals, BelowN (m + ((T.set a2 (lvC l)).set a5 (nvC d)).length) y :=
      bel_setT (bel_setT gb (fun y hy => by simp [AB.vals] at hy; subst hy; exact .p _)) (fun y hy => by simp [AB.vals] at hy; subst hy; exact .p _)
    have hB := bel_appT hn hb hgb
    have hll : ((T.set a2 (lvC l)).set a5 (nvC d)).length = T.length := by rw [List.length_set, List.length_set]
    rw [hll] at hB
    have hVl := hVn l d
    refine bel_newx (bel_newx (bel_mono (m := m + T.length) (H := verF H0 T a2 a5 l d) hB (Nat.le_of_eq hVl) (by omega)) fun y hy => ?_) fun y hy => ?_
    · simp [AB.vals] at hy; subst hy; exact .p _
    · simp [AB.vals] at hy; subst hy
      exact .clo _ _ _ (fun _ _ h => by simp at h) (fun i z hz => by rcases i with _ | _ | _ | _ | i <;> simp at hz <;> subst hz <;> exact .ptr _ _ (by omega))
  · rw [f_new_ne (by rw [n_new', hVn]; omega), f_new_eq (by rw [hVn])]
  · rw [f_new_eq (by rw [n_new', hVn])]
  · unfold verF; rw [← hn, app_at, List.getElem?_set_ne h25.symm, List.getElem?_set_self (by omega)]
  · unfold verF; rw [← hn, app_at, List.getElem?_set_self (by rw [List.length_set]; omega)]
  · rw [st (by omega)]; unfold verF; rw [← hn, app_set_hi (by rw [List.length_set, List.length_set]; omega), List.set_comm _ _ h25, List.set_set, List.set_comm _ _ h25.symm]
  · rw [st (by omega)]; unfold verF; rw [← hn, app_set_hi (by rw [List.length_set, List.length_set]; omega), List.set_set]
  · rw [set_new_ne (by rw [n_new', hVn]; omega), set_new_eq (by rw [hVn])]
end fam
section walks
variable {G : Globs}
set_option maxRecDepth 20000 in
set_option maxHeartbeats 16000000 in
theorem Verify_spec (hG : GS G) (root : By) (hroot : root.length = 32) (n : Int) (hn1 : -9223372036854775808 ≤ n) (hn2 : n ≤ 9223372036854775807) (idx : List Int) (hil : idx.length ≤ 100000) (B N : List By) (hB : Short B) (hBl : B.length ≤ 100000) (hN : ∀ d ∈ N, d.length = 32) (hNl : N.length ≤ 100000)
    (H : Hp) (R : AV → Hp → Prop) (h : R (.p (i64 (verE root n idx B N : Nat))) H) :
    ACall Tryd.prog G 22 [.p (.agg (pl b8 root)), .p (i64 n), .p (.agg [.sl false 1 (pl i64 idx), .sl false 1 (pl bs B)]), .p (.agg [.sl false 32 (pl db N)])] H R := by
  have hG' := hG
  obtain ⟨hG0, hG1⟩ := hG
  refine ACall.of_run (raw := []) Tryd.func22 rfl Tryd.ntmps22 (by simp) fun hbel => ?_
  (repeat refine .z rfl ?_); refine .text ?_; simp (disch := first | exact dsc | fail) only [go_sem, seval, hroot]
  (repeat refine .z rfl ?_); refine .text ?_; simp (disch := first | exact dsc | fail) only [go_sem, seval]
  refine CallK.of (fun R h => check_spec n hn1 hn2 idx (by omega) _ R h) ?_; simp (disch := first | exact dsc | fail) only [go_sem, seval]
  by_cases hlt : n < 1
  · have d1 : decide (n < 1) = true := decide_eq_true hlt
    have hv : verE root n idx B N = 1 := by
      have : verC n idx B = 1 := if_pos (.inl hlt)
      rw [verE, this]; rfl
    rw [hv] at h
    (repeat refine .z rfl ?_); refine .text ?_; simp (disch := first | exact dsc | fail) only [go_sem, seval, d1]
    (repeat refine .z rfl ?_); refine .ifT (by simp (disch := first | exact dsc | fail) only [go_sem, seval, d1]) ?_
    (repeat refine .z rfl ?_); refine .text ?_; simp (disch := first | exact dsc | fail) only [go_sem, seval]
    (repeat refine .z rfl ?_); refine .text ?_; simp (disch := first | exact dsc | fail) only [go_sem, seval]
    (repeat refine .z rfl ?_); refine .ifT (by simp (disch := first | exact dsc | fail) only [go_sem, seval]) ?_
    (repeat refine .z rfl ?_); refine .text ?_; simp (disch := first | exact dsc | fail) only [go_sem, seval]
    (repeat refine .z rfl ?_); refine .rt Tryd.func22 (by rw [Tryd.results22]) (hR := ?_); simp (disch := first | exact dsc | fail) only [go_sem, seval]
    exact h
  · have d1 : decide (n < 1) = false := decide_eq_false hlt
    by_cases hne : B.length = idx.length
    · have d2 : ((B.length : Int) != (idx.length : Int)) = false := by rw [hne]; simp
      have hc : verC n idx B = chkE n idx := if_neg (by rintro (h | h); exact hlt h; exact h hne)
      (repeat refine .z rfl ?_); refine .text ?_; simp (disch := first | exact dsc | fail) only [go_sem, seval, d1, d2]
      (repeat refine .z rfl ?_); refine .ifF (by simp (disch := first | exact dsc | fail) only [go_sem, seval, d1, d2]) ?_
      by_cases h0 : chkE n idx = 0
      · have d3 : (((chkE n idx : Nat) : Int) != 0) = false := by rw [h0]; rfl
        (repeat refine .z rfl ?_); refine .text ?_; simp (disch := first | exact dsc | fail) only [go_sem, seval, d3]
        (repeat refine .z rfl ?_); refine .ifF (by simp (disch := first | exact dsc | fail) only [go_sem, seval, d3]) ?_
        (repeat refine .z rfl ?_)
        obtain ⟨H0, hH0⟩ : ∃ H0, H0 = (((H.new (.cells (cl b8 root))).new (.cells [.p (.sl false 1 (pl i64 idx)), .p (.sl false 1 (pl bs B))])).new (.cells [.p (.sl false 32 (pl db N))])) := ⟨_, rfl⟩
        rw [← hH0]
        have hn0 : H0.n = H.n + 3 := by rw [hH0]; simp (disch := first | exact dsc | fail) only [go_sem, seval]
        have q0 : H0.f H.n = some (.cells (cl b8 root)) := by rw [hH0]; simp (disch := first | exact dsc | fail) only [go_sem, seval]
        have q1 : H0.f (H.n + 1) = some (.cells [.p (.sl false 1 (pl i64 idx)), .p (.sl false 1 (pl bs B))]) := by rw [hH0]; simp (disch := first | exact dsc | fail) only [go_sem, seval]
        have q2 : H0.f (H.n + 2) = some (.cells [.p (.sl false 32 (pl db N))]) := by rw [hH0]; simp (disch := first | exact dsc | fail) only [go_sem, seval]
        have ht0 : H0.trunc H.n = H := by rw [hH0]; simp (disch := first | exact dsc | fail) only [go_sem, seval]
        have hb0 : Bel (H.n + 3) H0 := by
          rw [hH0]
          refine bel_p1 (bel_newx (bel_clb (bel_start hbel (by omega))) fun z hz => by simp [AB.vals] at hz; rcases hz with rfl | rfl <;> exact .p _)
        have hbl0 : Bel H.n H0 := by
          rw [hH0]
          exact bel_new (bel_new (bel_new hbel (by omega)) (by simp (disch := first | exact dsc | fail) only [go_sem, seval]; omega)) (by simp (disch := first | exact dsc | fail) only [go_sem, seval]; omega)
        -- REGION6
        refine .openInv (fun L env' H' => ∃ T a2 a5 a6 a7, H' = app H0 T ∧ (env' 1 = .p (i64 n) ∧ env' 4 = .ptr H.n 0 ∧ env' 6 = .ptr (H.n + 1) 0 ∧ env' 7 = .ptr (H.n + 2) 0 ∧ env' 8 = .p (i64 0)) ∧ (L 0 = true → env' 35 = .ptr (H.n + 1) 1) ∧ (L 1 = true → env' 36 = .p (.sl false 1 (pl bs B))) ∧ (L 3 = true → env' 38 = .ptr (H.n + 2) 0) ∧ (L 4 = true → env' 39 = .p (.sl false 32 (pl db N))) ∧ (L 2 = true → env' 37 = .clo 70 [] [.ptr (H.n + 3 + a2) 0] ∧ T[a2]? = some (.cells [.p (.sl false 1 (pl bs B))])) ∧ (L 5 = true → env' 40 = .clo 71 [] [.ptr (H.n + 3 + a5) 0] ∧ T[a5]? = some (.cells [.p (.sl false 32 (pl db N))])) ∧ (L 6 = true → env' 10 = .ptr (H.n + 3 + a6) 0 ∧ T[a6]? = some (.cells [if L 8 then .clo 70 [] [.ptr (H.n + 3 + a2) 0] else .p (.s .nilFunc)])) ∧ (L 7 = true → env' 11 = .ptr (H.n + 3 + a7) 0 ∧ T[a7]? = some (.cells [if L 9 then .clo 71 [] [.ptr (H.n + 3 + a5) 0] else .p (.s .nilFunc)])) ∧ (L 6 = true → L 7 = true → a6 ≠ a7) ∧ (∀ j, (j = 2 ∨ j = 5 ∨ j = 6 ∨ j = 7) → L 8 = true → L j = true) ∧ (L 9 = true → L 8 = true) ∧ (∀ (i : Nat) (x : AB), T[i]? = some x → ∀ y ∈ x.vals, BelowN (H.n + 3 + T.length) y)) follows (by kernel_rfl) ?_ ?_ ?_
        · exact ⟨[], 0, 0, 0, 0, rfl, ⟨(by simp (disch := first | exact dsc | fail) only [go_sem, seval]), (by simp (disch := first | exact dsc | fail) only [go_sem, seval]), (by simp (disch := first | exact dsc | fail) only [go_sem, seval]), (by simp (disch := first | exact dsc | fail) only [go_sem, seval]), (by simp (disch := first | exact dsc | fail) only [go_sem, seval])⟩, (fun h => by cases h), (fun h => by cases h), (fun h => by cases h), (fun h => by cases h), (fun h => by cases h), (fun h => by cases h), (fun h => by cases h), (fun h => by cases h), (fun h => by cases h), (fun _ _ h => by cases h), (fun h => by cases h), (fun i x h => by simp at h)⟩
        · intro i o L env' H' ho hL hall hI
          obtain ⟨T, a2, a5, a6, a7, rfl, ⟨f1, f4, f6, f7, f8⟩, g0, g1, g3, g4, g2, g5, g6, g7, gd, gx, g9, gb⟩ := hI
          have hnT : (app H0 T).n = H.n + 3 + T.length := by rw [app_n', hn0]
          rcases i with _ | _ | _ | _ | _ | _ | _ | _ | _ | _ | i
          · cases ho
            refine opA_val (.ptr (H.n + 1) 1) rfl rfl (by simp (disch := first | exact dsc | fail) only [go_sem, seval, f1, f4, f6, f7, f8, app_f' q1] <;> rfl) rfl ?_
            exact ⟨T, a2, a5, a6, a7, rfl, ⟨(by (try simp (disch := first | exact dsc | fail) only [go_sem, seval]); exact f1), (by (try simp (disch := first | exact dsc | fail) only [go_sem, seval]); exact f4), (by (try simp (disch := first | exact dsc | fail) only [go_sem, seval]); exact f6), (by (try simp (disch := first | exact dsc | fail) only [go_sem, seval]); exact f7), (by (try simp (disch := first | exact dsc | fail) only [go_sem, seval]); exact f8)⟩, (fun _ => by simp (disch := first | exact dsc | fail) only [go_sem, seval]), (fun q => by (rw [more_ne (by decide)] at q); (try simp (disch := first | exact dsc | fail) only [go_sem, seval]); exact g1 q), (fun q => by (rw [more_ne (by decide)] at q); (try simp (disch := first | exact dsc | fail) only [go_sem, seval]); exact g3 q), (fun q => by (rw [more_ne (by decide)] at q); (try simp (disch := first | exact dsc | fail) only [go_sem, seval]); exact g4 q), (fun q => by (rw [more_ne (by decide)] at q); (try simp (disch := first | exact dsc | fail) only [go_sem, seval]); exact g2 q), (fun q => by (rw [more_ne (by decide)] at q); (try simp (disch := first | exact dsc | fail) only [go_sem, seval]); exact g5 q), (fun q => by (rw [more_ne (by decide)] at q); (try simp (disch := first | exact dsc | fail) only [go_sem, seval]); obtain ⟨u1, u2⟩ := g6 q; exact ⟨u1, by rw [more_ne (show 8 ≠ 0 by decide)]; exact u2⟩), (fun q => by (rw [more_ne (by decide)] at q); (try simp (disch := first | exact dsc | fail) only [go_sem, seval]); obtain ⟨u1, u2⟩ := g7 q; exact ⟨u1, by rw [more_ne (show 9 ≠ 0 by decide)]; exact u2⟩), (fun p q => by (rw [more_ne (by decide)] at p q); exact gd p q), (fun j hj q => by (rw [more_ne (by decide)] at q); exact more_t (gx j hj q)), (fun q => by (rw [more_ne (by decide)] at q); exact more_t (g9 q)), gb⟩
          · cases ho
            have h0 : L 0 = true := hall ⟨0, .data⟩ (by simp) rfl
            refine opA_val (.p (.sl false 1 (pl bs B))) rfl rfl (by simp (disch := first | exact dsc | fail) only [go_sem, seval, f1, f4, f6, f7, f8, g0 h0, app_f' q1] <;> rfl) rfl ?_
            exact ⟨T, a2, a5, a6, a7, rfl, ⟨(by (try simp (disch := first | exact dsc | fail) only [go_sem, seval]); exact f1), (by (try simp (disch := first | exact dsc | fail) only [go_sem, seval]); exact f4), (by (try simp (disch := first | exact dsc | fail) only [go_sem, seval]); exact f6), (by (try simp (disch := first | exact dsc | fail) only [go_sem, seval]); exact f7), (by (try simp (disch := first | exact dsc | fail) only [go_sem, seval]); exact f8)⟩, (fun q => by (rw [more_ne (by decide)] at q); (try simp (disch := first | exact dsc | fail) only [go_sem, seval]); exact g0 q), (fun _ => by simp (disch := first | exact dsc | fail) only [go_sem, seval]), (fun q => by (rw [more_ne (by decide)] at q); (try simp (disch := first | exact dsc | fail) only [go_sem, seval]); exact g3 q), (fun q => by (rw [more_ne (by decide)] at q); (try simp (disch := first | exact dsc | fail) only [go_sem, seval]); exact g4 q), (fun q => by (rw [more_ne (by decide)] at q); (try simp (disch := first | exact dsc | fail) only [go_sem, seval]); exact g2 q), (fun q => by (rw [more_ne (by decide)] at q); (try simp (disch := first | exact dsc | fail) only [go_sem, seval]); exact g5 q), (fun q => by (rw [more_ne (by decide)] at q); (try simp (disch := first | exact dsc | fail) only [go_sem, seval]); obtain ⟨u1, u2⟩ := g6 q; exact ⟨u1, by rw [more_ne (show 8 ≠ 1 by decide)]; exact u2⟩), (fun q => by (rw [more_ne (by decide)] at q); (try simp (disch := first | exact dsc | fail) only [go_sem, seval]); obtain ⟨u1, u2⟩ := g7 q; exact ⟨u1, by rw [more_ne (show 9 ≠ 1 by decide)]; exact u2⟩), (fun p q => by (rw [more_ne (by decide)] at p q); exact gd p q), (fun j hj q => by (rw [more_ne (by decide)] at q); exact more_t (gx j hj q)), (fun q => by (rw [more_ne (by decide)] at q); exact more_t (g9 q)), gb⟩
          · cases ho
            have h1 : L 1 = true := hall ⟨1, .data⟩ (by simp) rfl
            have n8 : L 8 = false := Bool.eq_false_iff.2 fun e => by (have := gx 2 (by decide) e; rw [hL] at this; cases this)
            have n9 : L 9 = false := Bool.eq_false_iff.2 fun e => by (have := g9 e; rw [n8] at this; cases this)
            refine opA_call rfl rfl (by simp (disch := first | exact dsc | fail) only [go_sem, seval, g1 h1] <;> rfl) rfl (by simp (disch := first | exact dsc | fail) only [go_sem, seval] <;> rfl) (fun R h => sourceB_spec B _ R h) ?_
            rw [app_push, hnT]
            exact ⟨T ++ [.cells [.p (.sl false 1 (pl bs B))]], T.length, a5, a6, a7, rfl, ⟨(by (try simp (disch := first | exact dsc | fail) only [go_sem, seval]); exact f1), (by (try simp (disch := first | exact dsc | fail) only [go_sem, seval]); exact f4), (by (try simp (disch := first | exact dsc | fail) only [go_sem, seval]); exact f6), (by (try simp (disch := first | exact dsc | fail) only [go_sem, seval]); exact f7), (by (try simp (disch := first | exact dsc | fail) only [go_sem, seval]); exact f8)⟩, (fun q => by (rw [more_ne (by decide)] at q); (try simp (disch := first | exact dsc | fail) only [go_sem, seval]); exact g0 q), (fun q => by (rw [more_ne (by decide)] at q); (try simp (disch := first | exact dsc | fail) only [go_sem, seval]); exact g1 q), (fun q => by (rw [more_ne (by decide)] at q); (try simp (disch := first | exact dsc | fail) only [go_sem, seval]); exact g3 q), (fun q => by (rw [more_ne (by decide)] at q); (try simp (disch := first | exact dsc | fail) only [go_sem, seval]); exact g4 q), (fun _ => ⟨by simp (disch := first | exact dsc | fail) only [go_sem, seval], get_last⟩), (fun q => by (rw [more_ne (by decide)] at q); (try simp (disch := first | exact dsc | fail) only [go_sem, seval]); exact ⟨(g5 q).1, get_push (g5 q).2⟩), (fun q => by (rw [more_ne (by decide)] at q); (try simp (disch := first | exact dsc | fail) only [go_sem, seval]); obtain ⟨u1, u2⟩ := g6 q; refine ⟨u1, ?_⟩; rw [n8, if_neg (by decide)] at u2; rw [more_ne (show 8 ≠ 2 by decide), n8, if_neg (by decide)]; exact get_push u2), (fun q => by (rw [more_ne (by decide)] at q); (try simp (disch := first | exact dsc | fail) only [go_sem, seval]); obtain ⟨u1, u2⟩ := g7 q; refine ⟨u1, ?_⟩; rw [n9, if_neg (by decide)] at u2; rw [more_ne (show 9 ≠ 2 by decide), n9, if_neg (by decide)]; exact get_push u2), (fun p q => by (rw [more_ne (by decide)] at p q); exact gd p q), (fun j hj q => by (rw [more_ne (by decide)] at q); exact more_t (gx j hj q)), (fun q => by (rw [more_ne (by decide)] at q); exact more_t (g9 q)), (bel_push gb (fun y hy => by (simp [AB.vals] at hy); subst hy; exact .p _))⟩
          · cases ho
            refine opA_val (.ptr (H.n + 2) 0) rfl rfl (by simp (disch := first | exact dsc | fail) only [go_sem, seval, f1, f4, f6, f7, f8] <;> rfl) rfl ?_
            exact ⟨T, a2, a5, a6, a7, rfl, ⟨(by (try simp (disch := first | exact dsc | fail) only [go_sem, seval]); exact f1), (by (try simp (disch := first | exact dsc | fail) only [go_sem, seval]); exact f4), (by (try simp (disch := first | exact dsc | fail) only [go_sem, seval]); exact f6), (by (try simp (disch := first | exact dsc | fail) only [go_sem, seval]); exact f7), (by (try simp (disch := first | exact dsc | fail) only [go_sem, seval]); exact f8)⟩, (fun q => by (rw [more_ne (by decide)] at q); (try simp (disch := first | exact dsc | fail) only [go_sem, seval]); exact g0 q), (fun q => by (rw [more_ne (by decide)] at q); (try simp (disch := first | exact dsc | fail) only [go_sem, seval]); exact g1 q), (fun _ => by simp (disch := first | exact dsc | fail) only [go_sem, seval]), (fun q => by (rw [more_ne (by decide)] at q); (try simp (disch := first | exact dsc | fail) only [go_sem, seval]); exact g4 q), (fun q => by (rw [more_ne (by decide)] at q); (try simp (disch := first | exact dsc | fail) only [go_sem, seval]); exact g2 q), (fun q => by (rw [more_ne (by decide)] at q); (try simp (disch := first | exact dsc | fail) only [go_sem, seval]); exact g5 q), (fun q => by (rw [more_ne (by decide)] at q); (try simp (disch := first | exact dsc | fail) only [go_sem, seval]); obtain ⟨u1, u2⟩ := g6 q; exact ⟨u1, by rw [more_ne (show 8 ≠ 3 by decide)]; exact u2⟩), (fun q => by (rw [more_ne (by decide)] at q); (try simp (disch := first | exact dsc | fail) only [go_sem, seval]); obtain ⟨u1, u2⟩ := g7 q; exact ⟨u1, by rw [more_ne (show 9 ≠ 3 by decide)]; exact u2⟩), (fun p q => by (rw [more_ne (by decide)] at p q); exact gd p q), (fun j hj q => by (rw [more_ne (by decide)] at q); exact more_t (gx j hj q)), (fun q => by (rw [more_ne (by decide)] at q); exact more_t (g9 q)), gb⟩
          · cases ho
            have h3 : L 3 = true := hall ⟨3, .data⟩ (by simp) rfl
            refine opA_val (.p (.sl false 32 (pl db N))) rfl rfl (by simp (disch := first | exact dsc | fail) only [go_sem, seval, f1, f4, f6, f7, f8, g3 h3, app_f' q2] <;> rfl) rfl ?_
            exact ⟨T, a2, a5, a6, a7, rfl, ⟨(by (try simp (disch := first | exact dsc | fail) only [go_sem, seval]); exact f1), (by (try simp (disch := first | exact dsc | fail) only [go_sem, seval]); exact f4), (by (try simp (disch := first | exact dsc | fail) only [go_sem, seval]); exact f6), (by (try simp (disch := first | exact dsc | fail) only [go_sem, seval]); exact f7), (by (try simp (disch := first | exact dsc | fail) only [go_sem, seval]); exact f8)⟩, (fun q => by (rw [more_ne (by decide)] at q); (try simp (disch := first | exact dsc | fail) only [go_sem, seval]); exact g0 q), (fun q => by (rw [more_ne (by decide)] at q); (try simp (disch := first | exact dsc | fail) only [go_sem, seval]); exact g1 q), (fun q => by (rw [more_ne (by decide)] at q); (try simp (disch := first | exact dsc | fail) only [go_sem, seval]); exact g3 q), (fun _ => by simp (disch := first | exact dsc | fail) only [go_sem, seval]), (fun q => by (rw [more_ne (by decide)] at q); (try simp (disch := first | exact dsc | fail) only [go_sem, seval]); exact g2 q), (fun q => by (rw [more_ne (by decide)] at q); (try simp (disch := first | exact dsc | fail) only [go_sem, seval]); exact g5 q), (fun q => by (rw [more_ne (by decide)] at q); (try simp (disch := first | exact dsc | fail) only [go_sem, seval]); obtain ⟨u1, u2⟩ := g6 q; exact ⟨u1, by rw [more_ne (show 8 ≠ 4 by decide)]; exact u2⟩), (fun q => by (rw [more_ne (by decide)] at q); (try simp (disch := first | exact dsc | fail) only [go_sem, seval]); obtain ⟨u1, u2⟩ := g7 q; exact ⟨u1, by rw [more_ne (show 9 ≠ 4 by decide)]; exact u2⟩), (fun p q => by (rw [more_ne (by decide)] at p q); exact gd p q), (fun j hj q => by (rw [more_ne (by decide)] at q); exact more_t (gx j hj q)), (fun q => by (rw [more_ne (by decide)] at q); exact more_t (g9 q)), gb⟩
          · cases ho
            have h2 : L 2 = true := hall ⟨2, .chain⟩ (by simp) rfl
            have h4 : L 4 = true := hall ⟨4, .data⟩ (by simp) rfl
            have n8 : L 8 = false := Bool.eq_false_iff.2 fun e => by (have := gx 5 (by decide) e; rw [hL] at this; cases this)
            have n9 : L 9 = false := Bool.eq_false_iff.2 fun e => by (have := g9 e; rw [n8] at this; cases this)
            refine opA_call rfl rfl (by simp (disch := first | exact dsc | fail) only [go_sem, seval, g4 h4] <;> rfl) rfl (by simp (disch := first | exact dsc | fail) only [go_sem, seval] <;> rfl) (fun R h => sourceD_spec N _ R h) ?_
            rw [app_push, hnT]
            exact ⟨T ++ [.cells [.p (.sl false 32 (pl db N))]], a2, T.length, a6, a7, rfl, ⟨(by (try simp (disch := first | exact dsc | fail) only [go_sem, seval]); exact f1), (by (try simp (disch := first | exact dsc | fail) only [go_sem, seval]); exact f4), (by (try simp (disch := first | exact dsc | fail) only [go_sem, seval]); exact f6), (by (try simp (disch := first | exact dsc | fail) only [go_sem, seval]); exact f7), (by (try simp (disch := first | exact dsc | fail) only [go_sem, seval]); exact f8)⟩, (fun q => by (rw [more_ne (by decide)] at q); (try simp (disch := first | exact dsc | fail) only [go_sem, seval]); exact g0 q), (fun q => by (rw [more_ne (by decide)] at q); (try simp (disch := first | exact dsc | fail) only [go_sem, seval]); exact g1 q), (fun q => by (rw [more_ne (by decide)] at q); (try simp (disch := first | exact dsc | fail) only [go_sem, seval]); exact g3 q), (fun q => by (rw [more_ne (by decide)] at q); (try simp (disch := first | exact dsc | fail) only [go_sem, seval]); exact g4 q), (fun q => by (rw [more_ne (by decide)] at q); (try simp (disch := first | exact dsc | fail) only [go_sem, seval]); exact ⟨(g2 q).1, get_push (g2 q).2⟩), (fun _ => ⟨by simp (disch := first | exact dsc | fail) only [go_sem, seval], get_last⟩), (fun q => by (rw [more_ne (by decide)] at q); (try simp (disch := first | exact dsc | fail) only [go_sem, seval]); obtain ⟨u1, u2⟩ := g6 q; refine ⟨u1, ?_⟩; rw [n8, if_neg (by decide)] at u2; rw [more_ne (show 8 ≠ 5 by decide), n8, if_neg (by decide)]; exact get_push u2), (fun q => by (rw [more_ne (by decide)] at q); (try simp (disch := first | exact dsc | fail) only [go_sem, seval]); obtain ⟨u1, u2⟩ := g7 q; refine ⟨u1, ?_⟩; rw [n9, if_neg (by decide)] at u2; rw [more_ne (show 9 ≠ 5 by decide), n9, if_neg (by decide)]; exact get_push u2), (fun p q => by (rw [more_ne (by decide)] at p q); exact gd p q), (fun j hj q => by (rw [more_ne (by decide)] at q); exact more_t (gx j hj q)), (fun q => by (rw [more_ne (by decide)] at q); exact more_t (g9 q)), (bel_push gb (fun y hy => by (simp [AB.vals] at hy); subst hy; exact .p _))⟩
          · cases ho
            have n8 : L 8 = false := Bool.eq_false_iff.2 fun e => by (have := gx 6 (by decide) e; rw [hL] at this; cases this)
            have n9 : L 9 = false := Bool.eq_false_iff.2 fun e => by (have := g9 e; rw [n8] at this; cases this)
            refine opA_valH (.ptr (app H0 T).n 0) rfl rfl (by simp (disch := first | exact dsc | fail) only [go_sem, seval] <;> rfl) rfl ?_
            rw [app_push, hnT]
            exact ⟨T ++ [.cells [.p (.s .nilFunc)]], a2, a5, T.length, a7, rfl, ⟨(by (try simp (disch := first | exact dsc | fail) only [go_sem, seval]); exact f1), (by (try simp (disch := first | exact dsc | fail) only [go_sem, seval]); exact f4), (by (try simp (disch := first | exact dsc | fail) only [go_sem, seval]); exact f6), (by (try simp (disch := first | exact dsc | fail) only [go_sem, seval]); exact f7), (by (try simp (disch := first | exact dsc | fail) only [go_sem, seval]); exact f8)⟩, (fun q => by (rw [more_ne (by decide)] at q); (try simp (disch := first | exact dsc | fail) only [go_sem, seval]); exact g0 q), (fun q => by (rw [more_ne (by decide)] at q); (try simp (disch := first | exact dsc | fail) only [go_sem, seval]); exact g1 q), (fun q => by (rw [more_ne (by decide)] at q); (try simp (disch := first | exact dsc | fail) only [go_sem, seval]); exact g3 q), (fun q => by (rw [more_ne (by decide)] at q); (try simp (disch := first | exact dsc | fail) only [go_sem, seval]); exact g4 q), (fun q => by (rw [more_ne (by decide)] at q); (try simp (disch := first | exact dsc | fail) only [go_sem, seval]); exact ⟨(g2 q).1, get_push (g2 q).2⟩), (fun q => by (rw [more_ne (by decide)] at q); (try simp (disch := first | exact dsc | fail) only [go_sem, seval]); exact ⟨(g5 q).1, get_push (g5 q).2⟩), (fun _ => ⟨by simp (disch := first | exact dsc | fail) only [go_sem, seval], by rw [more_ne (show 8 ≠ 6 by decide), n8, if_neg (by decide)]; exact get_last⟩), (fun q => by (rw [more_ne (by decide)] at q); (try simp (disch := first | exact dsc | fail) only [go_sem, seval]); obtain ⟨u1, u2⟩ := g7 q; refine ⟨u1, ?_⟩; rw [n9, if_neg (by decide)] at u2; rw [more_ne (show 9 ≠ 6 by decide), n9, if_neg (by decide)]; exact get_push u2), (fun _ q => by (rw [more_ne (by decide)] at q); have := lt_get (g7 q).2; omega), (fun j hj q => by (rw [more_ne (by decide)] at q); exact more_t (gx j hj q)), (fun q => by (rw [more_ne (by decide)] at q); exact more_t (g9 q)), (bel_push gb (fun y hy => by (simp [AB.vals] at hy); subst hy; exact .p _))⟩
          · cases ho
            have n8 : L 8 = false := Bool.eq_false_iff.2 fun e => by (have := gx 7 (by decide) e; rw [hL] at this; cases this)
            have n9 : L 9 = false := Bool.eq_false_iff.2 fun e => by (have := g9 e; rw [n8] at this; cases this)
            refine opA_valH (.ptr (app H0 T).n 0) rfl rfl (by simp (disch := first | exact dsc | fail) only [go_sem, seval] <;> rfl) rfl ?_
            rw [app_push, hnT]
            exact ⟨T ++ [.cells [.p (.s .nilFunc)]], a2, a5, a6, T.length, rfl, ⟨(by (try simp (disch := first | exact dsc | fail) only [go_sem, seval]); exact f1), (by (try simp (disch := first | exact dsc | fail) only [go_sem, seval]); exact f4), (by (try simp (disch := first | exact dsc | fail) only [go_sem, seval]); exact f6), (by (try simp (disch := first | exact dsc | fail) only [go_sem, seval]); exact f7), (by (try simp (disch := first | exact dsc | fail) only [go_sem, seval]); exact f8)⟩, (fun q => by (rw [more_ne (by decide)] at q); (try simp (disch := first | exact dsc | fail) only [go_sem, seval]); exact g0 q), (fun q => by (rw [more_ne (by decide)] at q); (try simp (disch := first | exact dsc | fail) only [go_sem, seval]); exact g1 q), (fun q => by (rw [more_ne (by decide)] at q); (try simp (disch := first | exact dsc | fail) only [go_sem, seval]); exact g3 q), (fun q => by (rw [more_ne (by decide)] at q); (try simp (disch := first | exact dsc | fail) only [go_sem, seval]); exact g4 q), (fun q => by (rw [more_ne (by decide)] at q); (try simp (disch := first | exact dsc | fail) only [go_sem, seval]); exact ⟨(g2 q).1, get_push (g2 q).2⟩), (fun q => by (rw [more_ne (by decide)] at q); (try simp (disch := first | exact dsc | fail) only [go_sem, seval]); exact ⟨(g5 q).1, get_push (g5 q).2⟩), (fun q => by (rw [more_ne (by decide)] at q); (try simp (disch := first | exact dsc | fail) only [go_sem, seval]); obtain ⟨u1, u2⟩ := g6 q; refine ⟨u1, ?_⟩; rw [n8, if_neg (by decide)] at u2; rw [more_ne (show 8 ≠ 7 by decide), n8, if_neg (by decide)]; exact get_push u2), (fun _ => ⟨by simp (disch := first | exact dsc | fail) only [go_sem, seval], by rw [more_ne (show 9 ≠ 7 by decide), n9, if_neg (by decide)]; exact get_last⟩), (fun q _ => by (rw [more_ne (by decide)] at q); have := lt_get (g6 q).2; omega), (fun j hj q => by (rw [more_ne (by decide)] at q); exact more_t (gx j hj q)), (fun q => by (rw [more_ne (by decide)] at q); exact more_t (g9 q)), (bel_push gb (fun y hy => by (simp [AB.vals] at hy); subst hy; exact .p _))⟩
          · cases ho
            have h0 : L 0 = true := hall ⟨0, .phase⟩ (by simp) rfl
            have h1 : L 1 = true := hall ⟨1, .phase⟩ (by simp) rfl
            have h2 : L 2 = true := hall ⟨2, .data⟩ (by simp) rfl
            have h5 : L 5 = true := hall ⟨5, .chain⟩ (by simp) rfl
            have h6 : L 6 = true := hall ⟨6, .data⟩ (by simp) rfl
            have h7 : L 7 = true := hall ⟨7, .phase⟩ (by simp) rfl
            have n9 : L 9 = false := Bool.eq_false_iff.2 fun e => by (have := g9 e; rw [hL] at this; cases this)
            obtain ⟨s2, t2⟩ := g2 h2
            obtain ⟨s5, t5⟩ := g5 h5
            obtain ⟨s6, t6⟩ := g6 h6
            obtain ⟨s7, t7⟩ := g7 h7
            have hdd := gd h6 h7
            rw [hL, if_neg (by decide)] at t6
            rw [n9, if_neg (by decide)] at t7
            have hat : (app H0 T).f (H.n + 3 + a6) = some (.cells [.p (.s .nilFunc)]) := by rw [← hn0, app_at]; exact t6
            have hst : (app H0 T).set (H.n + 3 + a6) (.cells [.clo 70 [] [.ptr (H.n + 3 + a2) 0]]) = app H0 (T.set a6 (.cells [.clo 70 [] [.ptr (H.n + 3 + a2) 0]])) := by rw [← hn0, app_set_hi (lt_get t6)]
            refine opA_unit rfl rfl (by simp (disch := first | exact dsc | fail) only [go_sem, seval, s2, s6, hat] <;> rfl) rfl ?_
            rw [hst]
            have h62 : a6 ≠ a2 := fun e => by (rw [e, t2] at t6); cases t6
            have h65 : a6 ≠ a5 := fun e => by (rw [e, t5] at t6); cases t6
            exact ⟨T.set a6 (.cells [.clo 70 [] [.ptr (H.n + 3 + a2) 0]]), a2, a5, a6, a7, rfl, ⟨(by (try simp (disch := first | exact dsc | fail) only [go_sem, seval]); exact f1), (by (try simp (disch := first | exact dsc | fail) only [go_sem, seval]); exact f4), (by (try simp (disch := first | exact dsc | fail) only [go_sem, seval]); exact f6), (by (try simp (disch := first | exact dsc | fail) only [go_sem, seval]); exact f7), (by (try simp (disch := first | exact dsc | fail) only [go_sem, seval]); exact f8)⟩, (fun q => by (rw [more_ne (by decide)] at q); (try simp (disch := first | exact dsc | fail) only [go_sem, seval]); exact g0 q), (fun q => by (rw [more_ne (by decide)] at q); (try simp (disch := first | exact dsc | fail) only [go_sem, seval]); exact g1 q), (fun q => by (rw [more_ne (by decide)] at q); (try simp (disch := first | exact dsc | fail) only [go_sem, seval]); exact g3 q), (fun q => by (rw [more_ne (by decide)] at q); (try simp (disch := first | exact dsc | fail) only [go_sem, seval]); exact g4 q), (fun _ => ⟨s2, by rw [List.getElem?_set_ne h62]; exact t2⟩), (fun _ => ⟨s5, by rw [List.getElem?_set_ne h65]; exact t5⟩), (fun _ => ⟨s6, by rw [more_eq, if_pos rfl, List.getElem?_set_self (lt_get t6)]⟩), (fun _ => ⟨s7, by rw [more_ne (show 9 ≠ 8 by decide), n9, if_neg (by decide), List.getElem?_set_ne hdd]; exact t7⟩), (fun _ _ => hdd), (fun j hj _ => by rcases hj with rfl | rfl | rfl | rfl <;> exact more_t (by assumption)), (fun q => by (rw [more_ne (by decide)] at q); exact more_t (g9 q)), (bel_setT gb (fun y hy => by (simp [AB.vals] at hy); subst hy; (have := lt_get t2); exact .clo _ _ _ (fun _ _ h => by simp at h) (fun i z hz => by (rcases i with _ | i <;> simp at hz); subst hz; exact .ptr _ _ (by omega))))⟩
          · cases ho
            have h0 : L 0 = true := hall ⟨0, .phase⟩ (by simp) rfl
            have h1 : L 1 = true := hall ⟨1, .phase⟩ (by simp) rfl
            have h2 : L 2 = true := hall ⟨2, .phase⟩ (by simp) rfl
            have h3 : L 3 = true := hall ⟨3, .phase⟩ (by simp) rfl
            have h4 : L 4 = true := hall ⟨4, .phase⟩ (by simp) rfl
            have h5 : L 5 = true := hall ⟨5, .data⟩ (by simp) rfl
            have h6 : L 6 = true := hall ⟨6, .phase⟩ (by simp) rfl
            have h7 : L 7 = true := hall ⟨7, .data⟩ (by simp) rfl
            have h8 : L 8 = true := hall ⟨8, .chain⟩ (by simp) rfl
            obtain ⟨s2, t2⟩ := g2 h2
            obtain ⟨s5, t5⟩ := g5 h5
            obtain ⟨s6, t6⟩ := g6 h6
            obtain ⟨s7, t7⟩ := g7 h7
            have hdd := gd h6 h7
            rw [h8, if_pos rfl] at t6
            rw [hL, if_neg (by decide)] at t7
            have hat : (app H0 T).f (H.n + 3 + a7) = some (.cells [.p (.s .nilFunc)]) := by rw [← hn0, app_at]; exact t7
            have hst : (app H0 T).set (H.n + 3 + a7) (.cells [.clo 71 [] [.ptr (H.n + 3 + a5) 0]]) = app H0 (T.set a7 (.cells [.clo 71 [] [.ptr (H.n + 3 + a5) 0]])) := by rw [← hn0, app_set_hi (lt_get t7)]
            refine opA_unit rfl rfl (by simp (disch := first | exact dsc | fail) only [go_sem, seval, s5, s7, hat] <;> rfl) rfl ?_
            rw [hst]
            have h62 : a7 ≠ a2 := fun e => by (rw [e, t2] at t7); cases t7
            have h65 : a7 ≠ a5 := fun e => by (rw [e, t5] at t7); cases t7
            exact ⟨T.set a7 (.cells [.clo 71 [] [.ptr (H.n + 3 + a5) 0]]), a2, a5, a6, a7, rfl, ⟨(by (try simp (disch := first | exact dsc | fail) only [go_sem, seval]); exact f1), (by (try simp (disch := first | exact dsc | fail) only [go_sem, seval]); exact f4), (by (try simp (disch := first | exact dsc | fail) only [go_sem, seval]); exact f6), (by (try simp (disch := first | exact dsc | fail) only [go_sem, seval]); exact f7), (by (try simp (disch := first | exact dsc | fail) only [go_sem, seval]); exact f8)⟩, (fun q => by (rw [more_ne (by decide)] at q); (try simp (disch := first | exact dsc | fail) only [go_sem, seval]); exact g0 q), (fun q => by (rw [more_ne (by decide)] at q); (try simp (disch := first | exact dsc | fail) only [go_sem, seval]); exact g1 q), (fun q => by (rw [more_ne (by decide)] at q); (try simp (disch := first | exact dsc | fail) only [go_sem, seval]); exact g3 q), (fun q => by (rw [more_ne (by decide)] at q); (try simp (disch := first | exact dsc | fail) only [go_sem, seval]); exact g4 q), (fun _ => ⟨s2, by rw [List.getElem?_set_ne h62]; exact t2⟩), (fun _ => ⟨s5, by rw [List.getElem?_set_ne h65]; exact t5⟩), (fun _ => ⟨s6, by rw [more_ne (show 8 ≠ 9 by decide), h8, if_pos rfl, List.getElem?_set_ne hdd.symm]; exact t6⟩), (fun _ => ⟨s7, by rw [more_eq, if_pos rfl, List.getElem?_set_self (lt_get t7)]⟩), (fun _ _ => hdd), (fun j hj q => by (rw [more_ne (by decide)] at q); exact more_t (gx j hj q)), (fun _ => more_t h8), (bel_setT gb (fun y hy => by (simp [AB.vals] at hy); subst hy; (have := lt_get t5); exact .clo _ _ _ (fun _ _ h => by simp at h) (fun i z hz => by (rcases i with _ | i <;> simp at hz); subst hz; exact .ptr _ _ (by omega))))⟩
          · simp at ho
        · intro L env' H' hall hI
          obtain ⟨T, a2, a5, a6, a7, rfl, ⟨f1, f4, f6, f7, f8⟩, _, _, _, _, g2, g5, g6, g7, gd, _, _, gb⟩ := hI
          obtain ⟨s2, t2⟩ := g2 (hall 2 (by decide))
          obtain ⟨s5, t5⟩ := g5 (hall 5 (by decide))
          obtain ⟨s6, t6⟩ := g6 (hall 6 (by decide))
          obtain ⟨s7, t7⟩ := g7 (hall 7 (by decide))
          have hdd := gd (hall 6 (by decide)) (hall 7 (by decide))
          rw [hall 8 (by decide), if_pos rfl] at t6
          rw [hall 9 (by decide), if_pos rfl] at t7
          clear hall g2 g5 g6 g7 gd
        -- END6
          have hfam := ver_fam hn0 hb0 t2 t5 t6 t7 gb
          have hVn := verF_n (T := T) (a2 := a2) (a5 := a5) hn0
          have hV0 : ∀ l d, (verF H0 T a2 a5 l d).f H.n = some (.cells (cl b8 root)) := fun l d => app_f' q0
          have hV1 : ∀ l d, (verF H0 T a2 a5 l d).f (H.n + 1) = some (.cells [.p (.sl false 1 (pl i64 idx)), .p (.sl false 1 (pl bs B))]) := fun l d => app_f' q1
          have hVt : ∀ l d, (verF H0 T a2 a5 l d).trunc H.n = H := fun l d => by unfold verF; rw [app_trunc (by omega), ht0]
          have hVb : ∀ l d, Bel H.n (verF H0 T a2 a5 l d) := fun l d => bel_appl hbl0 (by omega)
          have hKF : app H0 T = verF H0 T a2 a5 B N := by unfold verF lvC nvC; rw [set_same t2, set_same t5]
          rw [hKF]
          have lt7 := lt_get t7
          have lt6 := lt_get t6
          have lt2 := lt_get t2
          have lt5 := lt_get t5
          generalize verF H0 T a2 a5 = F at hfam hVn hV0 hV1 hVt hVb ⊢
          clear t2 t5 t6 t7 gb hKF hdd hbl0 hb0 ht0 q0 q1 q2 hn0 hH0
          generalize hM : H.n + 3 + T.length = M at hfam hVn
          generalize hQ : H.n + 3 + a7 = q at hfam s7
          generalize hP : H.n + 3 + a6 = p at hfam s6
          generalize hBL : H.n + 3 + a2 = bl at hfam s2
          generalize hBN : H.n + 3 + a5 = bn at hfam s5
          have hqM : q < M := by omega
          have hpM : p < M := by omega
          have hM3 : H.n + 3 ≤ M := by omega
          clear s2 s5 hM hQ hP hBL hBN lt7 lt6 lt2 lt5
          have hinc : Inc n idx := by
            by_cases e : Inc n idx
            · exact e
            · rw [chkE, if_neg e] at h0; cases h0
          have hsz : sizeE n = 0 := by rw [chkE, if_pos hinc] at h0; exact h0
          obtain ⟨k, rfl⟩ : ∃ k : Nat, n = k := ⟨n.toNat, by omega⟩
          have hk : k ≤ 65536 := by
            rw [sizeE_nat] at hsz
            unfold rootE at hsz
            split at hsz
            · cases hsz
            · split at hsz
              · cases hsz
              · omega
          have hreb := rebuild_spec (G := G) hG' _ _ _ _ _ _ k _ _ hfam 0 k idx B N true (by omega) (by omega) hk hinc.asc hil hN hNl hB hBl
          have hok := rebF_ok k idx 0 k B N true hN hB
          have hv : verE root k idx B N = if (verR k idx B N).2.2.1 = [] ∧ (verR k idx B N).2.2.2 = true ∧ (verR k idx B N).1 = root then 0 else 80 := by
            rw [verE, hc, if_pos h0]; rfl
          rw [hv] at h
          unfold verR at h
          generalize rebF k idx 0 k B N true = r at hreb hok h
          obtain ⟨x, l', d', c'⟩ := r
          dsimp only at hreb hok h
          obtain ⟨hx, ⟨ka, hla⟩, ⟨kb, hda⟩⟩ := hok
          have hd' : ∀ y ∈ d', y.length = 32 := fun y hy => hN y (by rw [hda] at hy; exact List.mem_of_mem_drop hy)
          have hdl' : d'.length ≤ 100000 := by rw [hda, List.length_drop]; omega
          unfold subV at hreb
          have hn1' := hVn B N
          have hn2' := hVn l' d'
          have hn3' := hVn l' (d'.drop 1)
          have f4' := f4
          (repeat refine .z rfl ?_); refine .text ?_; simp (disch := first | exact dsc | fail) only [go_sem, seval, f1, f6, s6, s7, hVn]
          (repeat refine .z rfl ?_); refine .text ?_; simp (disch := first | exact dsc | fail) only [go_sem, seval, f1, s6, s7, hVn]
          (repeat refine .z rfl ?_); refine .text ?_; simp (disch := first | exact dsc | fail) only [go_sem, seval, f1, s6, s7, hVn]
          (repeat refine .z rfl ?_); refine .text ?_; simp (disch := first | exact dsc | fail) only [go_sem, seval, f1, f6, hVn, hV1]
          refine CallK.of (fun R h => hreb R h) ?_
          simp (disch := first | exact dsc | fail) only [go_sem, seval, hVn]
          have fq := hfam.fq l' d' c'
          have fn := hfam.fn l' d' c'
          have fcc := hfam.fcc l' (d'.drop 1) c'
          have sn := hfam.sn l' d' c' (d'.drop 1)
          have hbq : q < M + 2 := by omega
          have hln := Hp.lt (hfam.fn l' d' c')
          (try dsimp only at fq fn fcc sn hln)
          rw [n_new', n_new', hn2'] at hln
          obtain ⟨SS, hSS⟩ : ∃ SS : List By → Hp, SS = fun d => ((F l' d).new (.cells [.p (bo c')])).new (.cells [.clo 50 [] [.ptr q 0, .ptr M 0, .ptr p 0, .ptr (M + 1) 0]]) := ⟨_, rfl⟩
          have eS : ∀ d, ((F l' d).new (.cells [.p (bo c')])).new (.cells [.clo 50 [] [.ptr q 0, .ptr M 0, .ptr p 0, .ptr (M + 1) 0]]) = SS d := fun d => by rw [hSS]
          rw [eS] at fq fn fcc sn
          rw [eS] at sn
          rw [eS]
          have hSn : ∀ d, (SS d).n = M + 2 := fun d => by rw [hSS]; simp (disch := first | exact dsc | fail) only [go_sem, seval, hVn]
          have hS0 : ∀ d, (SS d).f H.n = some (.cells (cl b8 root)) := fun d => by rw [hSS]; have := hVn l' d; simp (disch := first | exact dsc | fail) only [go_sem, seval, hVn, hV0]
          have hSt : ∀ d, (SS d).trunc H.n = H := fun d => by rw [hSS]; have := hVn l' d; simp (disch := first | exact dsc | fail) only [go_sem, seval, hVn, hVt]
          have hSb : ∀ d, Bel H.n (SS d) := fun d => by rw [hSS]; exact bel_new (bel_new (hVb l' d) (by rw [hVn]; omega)) (by rw [n_new', hVn]; omega)
          have hs1 := hSn d'
          have hs2 := hSn (d'.drop 1)
          have hh := hdD_len hd'
          (repeat refine .z rfl ?_); refine .text ?_; simp (disch := first | exact dsc | fail) only [go_sem, seval, f1, s7, hSn, fq]
          refine CallK.of (fun R h => nextD_spec d' hdl' hd' bn _ (by simp (disch := first | exact dsc | fail) only [go_sem, seval, hSn, fn]) R h) ?_; simp (disch := first | exact dsc | fail) only [go_sem, seval, hSn, sn, hh]
          have hbelS := hSb (d'.drop 1)
          have hem : (!d'.isEmpty) = !decide (d' = []) := by cases d' <;> rfl
          rw [hem]
          by_cases e1 : d' = []
          · rw [decide_eq_true e1]
            cases c'
            · rw [if_neg (by rintro ⟨_, h, _⟩; cases h)] at h
              (repeat refine .z rfl ?_); refine .text ?_; simp (disch := first | exact dsc | fail) only [go_sem, seval, f1, fcc, hSn]
              (repeat refine .z rfl ?_); refine .ifT (by simp (disch := first | exact dsc | fail) only [go_sem, seval]) ?_
              (repeat refine .z rfl ?_); refine .text ?_; simp (disch := first | exact dsc | fail) only [go_sem, seval]
              have hbel := hbelS
              (repeat refine .z rfl ?_); refine .rt Tryd.func22 (by rw [Tryd.results22]) (hR := ?_); simp (disch := first | exact dsc | fail) only [go_sem, seval]
              rw [hSt]
              exact h
            · by_cases e2 : x = root
              · have d4 : (!decide (x = root)) = false := by rw [decide_eq_true e2]; rfl
                rw [if_pos ⟨e1, rfl, e2⟩] at h
                (repeat refine .z rfl ?_); refine .text ?_; simp (disch := first | exact dsc | fail) only [go_sem, seval, f4, fcc, hSn, hS0, hx, hroot, d4, cells_db, aggOf_db hx, aggOf_db hroot]
                (repeat refine .z rfl ?_); refine .ifF (by simp (disch := first | exact dsc | fail) only [go_sem, seval, d4]) ?_
                (repeat refine .z rfl ?_); refine .text ?_; simp (disch := first | exact dsc | fail) only [go_sem, seval]
                have hbel := hbelS
                (repeat refine .z rfl ?_); refine .rt Tryd.func22 (by rw [Tryd.results22]) (hR := ?_); simp (disch := first | exact dsc | fail) only [go_sem, seval]
                rw [hSt]
                exact h
              · have d4 : (!decide (x = root)) = true := by rw [decide_eq_false e2]; rfl
                rw [if_neg (by rintro ⟨_, _, h⟩; exact e2 h)] at h
                (repeat refine .z rfl ?_); refine .text ?_; simp (disch := first | exact dsc | fail) only [go_sem, seval, f4, fcc, hSn, hS0, hx, hroot, d4, cells_db, aggOf_db hx, aggOf_db hroot]
                (repeat refine .z rfl ?_); refine .ifT (by simp (disch := first | exact dsc | fail) only [go_sem, seval, d4]) ?_
                (repeat refine .z rfl ?_); refine .text ?_; simp (disch := first | exact dsc | fail) only [go_sem, seval]
                have hbel := hbelS
                (repeat refine .z rfl ?_); refine .rt Tryd.func22 (by rw [Tryd.results22]) (hR := ?_); simp (disch := first | exact dsc | fail) only [go_sem, seval]
                rw [hSt]
                exact h
          · rw [decide_eq_false e1]
            rw [if_neg (by rintro ⟨h, _⟩; exact e1 h)] at h
            (repeat refine .z rfl ?_); refine .text ?_; simp (disch := first | exact dsc | fail) only [go_sem, seval, f1, fcc, hSn]
            (repeat refine .z rfl ?_); refine .ifT (by simp (disch := first | exact dsc | fail) only [go_sem, seval]) ?_
            (repeat refine .z rfl ?_); refine .text ?_; simp (disch := first | exact dsc | fail) only [go_sem, seval]
            have hbel := hbelS
            (repeat refine .z rfl ?_); refine .rt Tryd.func22 (by rw [Tryd.results22]) (hR := ?_); simp (disch := first | exact dsc | fail) only [go_sem, seval]
            rw [hSt]
            exact h
      · have d3 : (((chkE n idx : Nat) : Int) != 0) = true := by simp; omega
        have hv : verE root n idx B N = chkE n idx := by rw [verE, hc, if_neg h0]
        rw [hv] at h
        (repeat refine .z rfl ?_); refine .text ?_; simp (disch := first | exact dsc | fail) only [go_sem, seval, d3]
        (repeat refine .z rfl ?_); refine .ifT (by simp (disch := first | exact dsc | fail) only [go_sem, seval, d3]) ?_
        (repeat refine .z rfl ?_); refine .text ?_; simp (disch := first | exact dsc | fail) only [go_sem, seval]
        (repeat refine .z rfl ?_); refine .rt Tryd.func22 (by rw [Tryd.results22]) (hR := ?_); simp (disch := first | exact dsc | fail) only [go_sem, seval]
        exact h
    · have d2 : ((B.length : Int) != (idx.length : Int)) = true := by simp; omega
      have hv : verE root n idx B N = 1 := by
        have : verC n idx B = 1 := if_pos (.inr hne)
        rw [verE, this]; rfl
      rw [hv] at h
      (repeat refine .z rfl ?_); refine .text ?_; simp (disch := first | exact dsc | fail) only [go_sem, seval, d1, d2]
      (repeat refine .z rfl ?_); refine .ifT (by simp (disch := first | exact dsc | fail) only [go_sem, seval, d1, d2]) ?_
      (repeat refine .z rfl ?_); refine .text ?_; simp (disch := first | exact dsc | fail) only [go_sem, seval]
      (repeat refine .z rfl ?_); refine .text ?_; simp (disch := first | exact dsc | fail) only [go_sem, seval]
      (repeat refine .z rfl ?_); refine .ifT (by simp (disch := first | exact dsc | fail) only [go_sem, seval]) ?_
      (repeat refine .z rfl ?_); refine .text ?_; simp (disch := first | exact dsc | fail) only [go_sem, seval]
      (repeat refine .z rfl ?_); refine .rt Tryd.func22 (by rw [Tryd.results22]) (hR := ?_); simp (disch := first | exact dsc | fail) only [go_sem, seval]
      exact h
end walks
end Go.Proofs.YthonhnpiglafkaaDoor

/-
  Hash trees: what the fixed examples of the laws come to.
-/
namespace Go.Proofs.YthonhnpiglafkaaDoor
open Go Go.AL

abbrev tx : List By := [[97#8], [98#8], [99#8]]
abbrev dA : By := leaf [97#8]
abbrev dB : By := leaf [98#8]
abbrev dC : By := leaf [99#8]
theorem tx_eq : textL 3 = tx := by rfl
theorem tx_short : Short tx := fun i hi => by
  rcases i with _ | _ | _ | i
  · exact (by decide : [97#8].length ≤ 800000)
  · exact (by decide : [98#8].length ≤ 800000)
  · exact (by decide : [99#8].length ≤ 800000)
  · simp at hi; omega
theorem foldD1 (x : By) : foldD [x] = x := foldD_one rfl
theorem foldD2 (x y : By) : foldD [x, y] = pair x y := by
  rw [foldD_two (by simp)]
  have h : spl [x, y].length = 1 := by rfl
  rw [h]
  show pair (foldD [x]) (foldD [y]) = _
  rw [foldD1, foldD1]
theorem foldD3 (x y z : By) : foldD [x, y, z] = pair (pair x y) z := by
  rw [foldD_two (by simp)]
  have h : spl [x, y, z].length = 2 := show spl 3 = 2 by decide +kernel
  rw [h]
  show pair (foldD [x, y]) (foldD [z]) = _
  rw [foldD2, foldD1]
theorem san_root : rootV tx = pair (pair dA dB) dC := by
  have h : rootE tx.length = 0 := rfl
  rw [rootV, if_pos h]
  exact foldD3 _ _ _
theorem san_one : rootV (tx.take 1) = dA := by
  have h : rootE (tx.take 1).length = 0 := rfl
  rw [rootV, if_pos h]
  exact foldD1 _
theorem san_none : rootV [] = zeroD ∧ rootE 0 = 1 := ⟨by rw [rootV, if_neg (by decide)], rfl⟩
theorem chk1 : chkE 3 [1] = 0 := by decide
theorem chk0 : chkE 3 [] = 0 := by decide
theorem chk11 : chkE 3 [1, 1] = 1 := by decide
theorem chk3 : chkE 3 [3] = 1 := by decide
theorem chk2 : chkE 3 [2] = 0 := by decide
theorem san_open : openN tx [1] = [dA, dC] := by
  have h : chkE tx.length [1] = 0 := chk1
  have hc : closI tx.length [1] = [(0, 1), (2, 3)] := by decide
  rw [openN, if_pos h, hc]
  show [foldD [dA], foldD [dC]] = _
  rw [foldD1, foldD1]
theorem san_whole : openN tx [] = [pair (pair dA dB) dC] := by
  have h : chkE tx.length [] = 0 := chk0
  have hc : closI tx.length [] = [(0, 3)] := by decide
  rw [openN, if_pos h, hc]
  show [foldD [dA, dB, dC]] = _
  rw [foldD3]
theorem san_wit : witN tx 2 = [pair dA dB] := by
  have h : chkE tx.length [2] = 0 := chk2
  have hc : stepC tx.length (2 : Int).toNat = [(0, 2)] := by decide
  rw [witN, if_pos h, pathD, hc]
  show [foldD [dA, dB]] = _
  rw [foldD2]
theorem san_push0 : pushD [] 0 [97#8] = [dA] := rfl
theorem san_push1 : pushD [dA] 1 [98#8] = [pair dA dB] := rfl
theorem san_push2 : pushD [pair dA dB] 2 [99#8] = [pair dA dB, dC] := rfl
theorem san_bag : bagD [pair dA dB, dC] = pair (pair dA dB) dC := rfl
theorem reb1 (l : By) (x z : By) : verR 3 [1] [l] [x, z] = (pair (pair x (leaf l)) z, [], [], true) := by
  have e1 : rebF 1 ([] : List Int) 0 1 [l] [x, z] true = (x, [l], [z], true) := rfl
  have e2 : rebF 1 ([1] : List Int) 1 2 [l] [z] true = (leaf l, [], [z], true) := rfl
  have f1 : ([1] : List Int).filter (fun i => decide (i < ((2 : Nat) : Int))) = [1] := by decide
  have f2 : ([1] : List Int).filter (fun i => decide (((2 : Nat) : Int) ≤ i)) = [] := by decide
  have g1 : ([1] : List Int).filter (fun i => decide (i < ((1 : Nat) : Int))) = [] := by decide
  have g2 : ([1] : List Int).filter (fun i => decide (((1 : Nat) : Int) ≤ i)) = [1] := by decide
  have e3 : rebF 2 ([1] : List Int) 0 2 [l] [x, z] true = (pair x (leaf l), [], [z], true) :=
    rebF_split (by simp) (by omega) (k := 1) (by rfl) (by rw [g1]; exact e1) (by rw [g2]; exact e2)
  have e4 : rebF 2 ([] : List Int) 2 3 [] [z] true = (z, [], [], true) := rfl
  exact rebF_split (by simp) (by omega) (k := 2) (by rfl) (by rw [f1]; exact e3) (by rw [f2]; exact e4)
theorem san_ver (r : By) (l x z : By) : verE r 3 [1] [l] [x, z] = if pair (pair x (leaf l)) z = r then 0 else 80 := by
  have h : verC 3 [1] [l] = 0 := by
    have : ¬((3 : Int) < 1 ∨ [l].length ≠ ([1] : List Int).length) := by simp
    rw [verC, if_neg this]; exact chk1
  have ht : (3 : Int).toNat = 3 := rfl
  rw [verE, if_pos h, ht, reb1]
  dsimp only
  by_cases e : pair (pair x (leaf l)) z = r
  · rw [if_pos ⟨rfl, rfl, e⟩, if_pos e]
  · rw [if_neg (by rintro ⟨_, _, h⟩; exact e h), if_neg e]
theorem san_ver3 (r : By) (N : List By) : verE r 3 [1] [] N = 1 := by
  have h : verC 3 [1] [] = 1 := if_pos (.inr (by decide))
  rw [verE, h]; rfl
theorem san_ver0 (r : By) (N : List By) : verE r 0 [] [] N = 1 := by
  have h : verC 0 [] [] = 1 := if_pos (.inl (by decide))
  rw [verE, h]; rfl
theorem san_verB (r : By) (N : List By) : verE r 65537 [] [] N = 2 := by
  have h : verC 65537 [] [] = 2 := by decide
  rw [verE, h]; rfl
set_option maxRecDepth 100000 in
theorem san_ne : pair (pair dA dA) dC ≠ pair (pair dA dB) dC := by decide +kernel
theorem oc3 : (oc (BitVec.ofNat 64 3)).toNat = 2 := by decide
theorem climb1 (q : By) (b : By) : climbI [q] [false].reverse b [q].length = pair q (leaf b) := by
  have hn : nth ([false] : List Bool).reverse 0 = false := rfl
  have hq : nth [q] 0 = q := rfl
  have h0 : climbI [q] [false].reverse b 0 = leaf b := rfl
  show climbI [q] [false].reverse b (0 + 1) = _
  rw [climbI, hn, if_neg (by decide), hq, h0]
theorem san_con1 : contN [pair dA dB, dC] 3 2 [99#8] [pair dA dB] = true := by
  have hs : sideL 3 2 = [false] := by decide
  have ho : (oc (BitVec.ofNat 64 3)).toNat = [pair dA dB, dC].length := oc3
  rw [contN, if_pos ho, hs, if_pos (show [false].length = [pair dA dB].length from rfl), decide_eq_true_eq, climb1, san_bag]
theorem san_con2 : contN [pair dA dB, dC] 3 1 [99#8] [pair dA dB] = false := by
  have hs : sideL 3 1 = [true, false] := by decide
  have ho : (oc (BitVec.ofNat 64 3)).toNat = [pair dA dB, dC].length := oc3
  rw [contN, if_pos ho, hs, if_neg (by simp)]
theorem san_con3 : contN [pair dA dB] 3 2 [99#8] [pair dA dB] = false := by
  rw [contN, if_neg (by rw [oc3]; simp)]
end Go.Proofs.YthonhnpiglafkaaDoor

/-
  Hash trees: the fixed examples of the laws.
-/
namespace Go.Proofs.YthonhnpiglafkaaDoor
open Go Go.AL

section walks
variable {G : Globs}
set_option maxRecDepth 20000 in
set_option maxHeartbeats 32000000 in
theorem sanity_spec (hG : GS G) (hT : GT G) (H : Hp) (R : AV → Hp → Prop) (h : R (.p (bo true)) H) : ACall Tryd.prog G 9 [] H R := by
  have hG' := hG
  obtain ⟨hG0, hG1⟩ := hG
  refine ACall.of_run (raw := []) Tryd.func9 rfl Tryd.ntmps9 (by simp) fun hbel => ?_
  (repeat refine .z rfl ?_); refine .text ?_; simp (disch := first | exact dsc | fail) only [go_sem, seval]
  (repeat refine .z rfl ?_); refine .text ?_; simp (disch := first | exact dsc | fail) only [go_sem, seval]
  refine CallK.of (fun R h => texts_spec 3 (by omega) _ R h) ?_; simp (disch := first | exact dsc | fail) only [go_sem, seval]
  rw [tx_eq]
  have lA : dA.length = 32 := leaf_len _
  have lB : dB.length = 32 := leaf_len _
  have lC : dC.length = 32 := leaf_len _
  have s1 := san_root
  have s2 := san_one
  have s3 := san_open
  have s4 := san_whole
  have s5 := san_wit
  have p0 := san_push0
  have p1 := san_push1
  have p2 := san_push2
  have s6 := san_bag
  have s7 := san_ver (pair (pair dA dB) dC) [98#8] dA dC
  rw [if_pos rfl] at s7
  have s8 := san_ver (pair (pair dA dB) dC) [97#8] dA dC
  rw [if_neg san_ne] at s8
  have c1 := san_con1
  have c2 := san_con2
  have c3 := san_con3
  have hsh := tx_short
  have hl3 : tx.length = 3 := rfl
  have n0 : nth tx 0 = [97#8] := rfl
  have n1 : nth tx 1 = [98#8] := rfl
  have n2 : nth tx 2 = [99#8] := rfl
  have tk : (tx.take 1).length = 1 := rfl
  have hsh1 : Short (tx.take 1) := hsh.take 1
  have lr : (pair (pair dA dB) dC).length = 32 := pair_len _ _
  have lab : (pair dA dB).length = 32 := pair_len _ _
  have hA : leaf [97#8] = dA := rfl
  have hB : leaf [98#8] = dB := rfl
  have hC : leaf [99#8] = dC := rfl
  generalize hr : pair (pair dA dB) dC = r at *
  generalize hab : pair dA dB = ab at *
  generalize dA = a at *
  generalize dB = b at *
  generalize dC = c at *
  generalize tx = ls at *
  have hcb : ∀ x : By, bs x = .sl false 1 (pl b8 x) := fun _ => rfl
  have r3 : rootE ls.length = 0 := by rw [hl3]; rfl
  have r1 : rootE (ls.take 1).length = 0 := by rw [tk]; rfl
  (repeat refine .z rfl ?_); refine .openF 12 15 18 [12, 13, 14, 15, 16, 17] follows (by kernel_rfl) (by kernel_rfl) ?_; simp (disch := first | exact dsc | fail) only [go_sem, seval, hl3, n0, n1, n2, hcb]
  refine CallQE.of (fun H R h => LeafR_spec [97#8] (by simp) H R h) (by first | exact .p _ | simp (disch := first | exact dsc | fail) only [go_sem, seval, hl3, n0, n1, n2, hcb, hA]) ?_; simp (disch := first | exact dsc | fail) only [go_sem, seval, hl3, n0, n1, n2, hcb, hA]
  refine CallQE.of (fun H R h => LeafR_spec [98#8] (by simp) H R h) (by first | exact .p _ | simp (disch := first | exact dsc | fail) only [go_sem, seval, hl3, n0, n1, n2, hcb, hB]) ?_; simp (disch := first | exact dsc | fail) only [go_sem, seval, hl3, n0, n1, n2, hcb, hB]
  refine CallQE.of (fun H R h => LeafR_spec [99#8] (by simp) H R h) (by first | exact .p _ | simp (disch := first | exact dsc | fail) only [go_sem, seval, hl3, n0, n1, n2, hcb, hC, lA, lB, lC]) ?_; simp (disch := first | exact dsc | fail) only [go_sem, seval, hl3, n0, n1, n2, hcb, hC, lA, lB, lC]
  (repeat refine .z rfl ?_); refine .text ?_; simp (disch := first | exact dsc | fail) only [go_sem, seval]
  refine CallK.of (fun R h => PairR_spec a b lA lB _ R h) ?_; simp (disch := first | exact dsc | fail) only [go_sem, seval, hab, lab]
  (repeat refine .z rfl ?_); refine .text ?_; simp (disch := first | exact dsc | fail) only [go_sem, seval]
  refine CallK.of (fun R h => Root_spec hG' ls (by omega) hsh _ R h) ?_; simp (disch := first | exact dsc | fail) only [go_sem, seval, s1, r3, lr]
  (repeat refine .z rfl ?_); refine .text ?_; simp (disch := first | exact dsc | fail) only [go_sem, seval, hl3]
  refine CallK.of (fun R h => Root_spec hG' (ls.take 1) (by omega) hsh1 _ R h) ?_; simp (disch := first | exact dsc | fail) only [go_sem, seval, s2, r1, lA]
  have hshN : Short ([] : List By) := fun i hi => by simp at hi
  have z1 : rootV ([] : List By) = zeroD := san_none.1
  have z2 : rootE ([] : List By).length = 1 := san_none.2
  have z3 : zeroD.length = 32 := rfl
  have k1 : chkE (ls.length : Int) [1] = 0 := by rw [hl3]; exact chk1
  have k0 : chkE (ls.length : Int) [] = 0 := by rw [hl3]; exact chk0
  have k11 : chkE (ls.length : Int) [1, 1] = 1 := by rw [hl3]; exact chk11
  have k3 : chkE (ls.length : Int) [3] = 1 := by rw [hl3]; exact chk3
  have k2 : chkE (ls.length : Int) [2] = 0 := by rw [hl3]; exact chk2
  have o11 : openN ls [1, 1] = [] := by rw [openN, if_neg (by rw [k11]; decide)]
  have o3 : openN ls [3] = [] := by rw [openN, if_neg (by rw [k3]; decide)]
  have w3 : witN ls 3 = [] := by rw [witN, if_neg (by rw [k3]; decide)]
  (repeat refine .z rfl ?_); refine .text ?_; simp (disch := first | exact dsc | fail) only [go_sem, seval]
  refine CallK.of (fun R h => nil_arg (xs := []) (ys := []) (fl := false) (sz := 1) (Root_spec hG' [] (by simp) hshN _ R h)) ?_; simp (disch := first | exact dsc | fail) only [go_sem, seval, z1, z2, z3]
  (repeat refine .z rfl ?_); refine .text ?_; simp (disch := first | exact dsc | fail) only [go_sem, seval]
  refine CallK.of (fun R h => Open_spec hG' ls [1] (by omega) (by simp) hsh _ R h) ?_; simp (disch := first | exact dsc | fail) only [go_sem, seval, s3, k1]
  (repeat refine .z rfl ?_); refine .text ?_; simp (disch := first | exact dsc | fail) only [go_sem, seval]
  refine CallK.of (fun R h => nil_arg (xs := [.p (.sl false 1 (pl bs ls))]) (ys := []) (fl := false) (sz := 1) (Open_spec hG' ls [] (by omega) (by simp) hsh _ R h)) ?_; simp (disch := first | exact dsc | fail) only [go_sem, seval, s4, k0]
  (repeat refine .z rfl ?_); refine .text ?_; simp (disch := first | exact dsc | fail) only [go_sem, seval]
  refine CallK.of (fun R h => Open_spec hG' ls [1, 1] (by omega) (by simp) hsh _ R h) ?_; simp (disch := first | exact dsc | fail) only [go_sem, seval, o11, k11]
  (repeat refine .z rfl ?_); refine .text ?_; simp (disch := first | exact dsc | fail) only [go_sem, seval]
  refine CallK.of (fun R h => Open_spec hG' ls [3] (by omega) (by simp) hsh _ R h) ?_; simp (disch := first | exact dsc | fail) only [go_sem, seval, o3, k3]
  (repeat refine .z rfl ?_); refine .text ?_; simp (disch := first | exact dsc | fail) only [go_sem, seval]
  refine CallK.of (fun R h => Witness_spec hG' ls 2 (by omega) hsh _ R h) ?_; simp (disch := first | exact dsc | fail) only [go_sem, seval, s5, k2]
  (repeat refine .z rfl ?_); refine .text ?_; simp (disch := first | exact dsc | fail) only [go_sem, seval]
  refine CallK.of (fun R h => Witness_spec hG' ls 3 (by omega) hsh _ R h) ?_; simp (disch := first | exact dsc | fail) only [go_sem, seval, w3, k3]
  (repeat refine .z rfl ?_); refine .open [] follows (by kernel_rfl) ?_; simp (disch := first | exact dsc | fail) only [go_sem, seval, hl3, n0, n1, n2, hcb]
  refine CallD.still (fun R h => nil_arg (xs := []) (ys := [.p (i64 0), .p (.sl false 1 (pl b8 [97#8]))]) (fl := false) (sz := 32) (Push_spec hG' hT [] (by simp) (by simp) 0 (by omega) (by decide) [97#8] (by simp) _ R h)) ?_; simp (disch := first | exact dsc | fail) only [go_sem, seval, p0, hl3, n0, n1, n2, hcb]
  refine CallD.still (fun R h => Push_spec hG' hT [a] (by simp) (by simp; exact lA) 1 (by omega) (show ones 64 1 ≤ 1 by decide) [98#8] (by simp) _ R h) ?_; simp (disch := first | exact dsc | fail) only [go_sem, seval, p1, hl3, n0, n1, n2, hcb]
  refine CallD.still (fun R h => Push_spec hG' hT [ab] (by simp) (by simp; exact lab) 2 (by omega) (show ones 64 2 ≤ 1 by decide) [99#8] (by simp) _ R h) ?_; simp (disch := first | exact dsc | fail) only [go_sem, seval, p2, hl3, n0, n1, n2, hcb]
  (repeat refine .z rfl ?_); refine .text ?_; simp (disch := first | exact dsc | fail) only [go_sem, seval, hl3, n0, n1, n2, hcb]
  (repeat refine .z rfl ?_); refine .text ?_; simp (disch := first | exact dsc | fail) only [go_sem, seval, hl3, n0, n1, n2, hcb]
  (repeat refine .z rfl ?_); refine .text ?_; simp (disch := first | exact dsc | fail) only [go_sem, seval, hl3, n0, n1, n2, hcb]
  (repeat refine .z rfl ?_); refine .text ?_; simp (disch := first | exact dsc | fail) only [go_sem, seval, hl3, n0, n1, n2, hcb]
  (repeat refine .z rfl ?_); refine .text ?_; simp (disch := first | exact dsc | fail) only [go_sem, seval, hl3, n0, n1, n2, hcb]
  (repeat refine .z rfl ?_)
  refine .openFast follows (by kernel_rfl) ?_
  simp only [List.append_eq, List.cons_append, List.nil_append]
  have q1 : rootE 1 = 0 := rfl
  have q3 : rootE 3 = 0 := rfl
  have q0 : rootE 0 = 1 := rfl
  simp (disch := first | exact dsc | fail) only [go_sem, seval, hr, lr, lA, lB, lC, lab, q1, q3, q0, k1, k0, k11, k3, k2, cells_db]
  have hAC : ∀ d ∈ [a, c], d.length = 32 := by simp [lA, lC]
  have hR1 : ∀ d ∈ [r], d.length = 32 := by simp [lr]
  have hAB1 : ∀ d ∈ [ab], d.length = 32 := by simp [lab]
  have hABC : ∀ d ∈ [ab, c], d.length = 32 := by simp [lab, lC]
  have hbag0 : bagD [] = zeroD := rfl
  have hz : decide (zeroD = [0#8, 0#8, 0#8, 0#8, 0#8, 0#8, 0#8, 0#8, 0#8, 0#8, 0#8, 0#8, 0#8, 0#8, 0#8, 0#8, 0#8, 0#8, 0#8, 0#8, 0#8, 0#8, 0#8, 0#8, 0#8, 0#8, 0#8, 0#8, 0#8, 0#8, 0#8, 0#8]) = true := rfl
  have shl : ∀ x : BitVec 8, Short [ [x] ] := fun x i hi => by
    simp at hi; subst hi; simp [nth]
  refine CallD.still (fun R h => PairR_spec ab c lab lC _ R h) ?_; simp (disch := first | exact dsc | fail) only [go_sem, seval, hr, lr, lA, lB, lC, lab, q1, q3, q0, k1, k0, k11, k3, k2, cells_db]
  refine CallD.still (fun R h => SameR_spec [a, c] [a, c] hAC hAC (by simp) (by simp) _ R h) ?_; simp (disch := first | exact dsc | fail) only [go_sem, seval, hr, lr, lA, lB, lC, lab, q1, q3, q0, k1, k0, k11, k3, k2, cells_db]
  refine CallD.still (fun R h => SameR_spec [r] [r] hR1 hR1 (by simp) (by simp) _ R h) ?_; simp (disch := first | exact dsc | fail) only [go_sem, seval, hr, lr, lA, lB, lC, lab, q1, q3, q0, k1, k0, k11, k3, k2, cells_db]
  refine CallD.still (fun R h => SameR_spec [ab] [ab] hAB1 hAB1 (by simp) (by simp) _ R h) ?_; simp (disch := first | exact dsc | fail) only [go_sem, seval, hr, lr, lA, lB, lC, lab, q1, q3, q0, k1, k0, k11, k3, k2, cells_db]
  refine CallD.still (fun R h => SameR_spec [ab, c] [ab, c] hABC hABC (by simp) (by simp) _ R h) ?_; simp (disch := first | exact dsc | fail) only [go_sem, seval, hr, lr, lA, lB, lC, lab, q1, q3, q0, k1, k0, k11, k3, k2, cells_db]
  refine CallD.still (fun R h => Bag_spec hG' [ab, c] (by simp) hABC _ R h) ?_; simp (disch := first | exact dsc | fail) only [go_sem, seval, hr, lr, lA, lB, lC, lab, q1, q3, q0, k1, k0, k11, k3, k2, cells_db, s6]
  refine CallD.still (fun R h => nil_arg (xs := []) (ys := []) (fl := false) (sz := 32) (Bag_spec hG' [] (by simp) (by simp) _ R h)) ?_; simp (disch := first | exact dsc | fail) only [go_sem, seval, hbag0, hz, z3, hr, lr, lA, lB, lC, lab, q1, q3, q0, k1, k0, k11, k3, k2, cells_db]
  refine CallD.still (fun R h => Verify_spec hG' r lr 3 (by omega) (by omega) [1] (by simp) [ [98#8] ] [a, c] (shl _) (by simp) hAC (by simp) _ R h) ?_; simp (disch := first | exact dsc | fail) only [go_sem, seval, s7, hr, lr, lA, lB, lC, lab, q1, q3, q0, k1, k0, k11, k3, k2, cells_db]
  refine CallD.still (fun R h => Verify_spec hG' r lr 3 (by omega) (by omega) [1] (by simp) [ [97#8] ] [a, c] (shl _) (by simp) hAC (by simp) _ R h) ?_; simp (disch := first | exact dsc | fail) only [go_sem, seval, s8, hr, lr, lA, lB, lC, lab, q1, q3, q0, k1, k0, k11, k3, k2, cells_db]
  refine CallD.still (fun R h => Verify_spec hG' r lr 3 (by omega) (by omega) [1] (by simp) [] [a, c] hshN (by simp) hAC (by simp) _ R h) ?_; simp (disch := first | exact dsc | fail) only [go_sem, seval, san_ver3, hr, lr, lA, lB, lC, lab, q1, q3, q0, k1, k0, k11, k3, k2, cells_db]
  refine CallD.still (fun R h => Verify_spec hG' r lr 0 (by omega) (by omega) [] (by simp) [] [a, c] hshN (by simp) hAC (by simp) _ R h) ?_; simp (disch := first | exact dsc | fail) only [go_sem, seval, san_ver0, hr, lr, lA, lB, lC, lab, q1, q3, q0, k1, k0, k11, k3, k2, cells_db]
  refine CallD.still (fun R h => Verify_spec hG' r lr 65537 (by omega) (by omega) [] (by simp) [] [a, c] hshN (by simp) hAC (by simp) _ R h) ?_; simp (disch := first | exact dsc | fail) only [go_sem, seval, san_verB, hr, lr, lA, lB, lC, lab, q1, q3, q0, k1, k0, k11, k3, k2, cells_db]
  refine CallD.still (fun R h => Contains_spec hG' [ab, c] (by simp) hABC 3 2 (by omega) (by omega) (by omega) [99#8] (by simp) [ab] (by simp) hAB1 _ R h) ?_; simp (disch := first | exact dsc | fail) only [go_sem, seval, c1, hr, lr, lA, lB, lC, lab, q1, q3, q0, k1, k0, k11, k3, k2, cells_db]
  refine CallD.still (fun R h => Contains_spec hG' [ab, c] (by simp) hABC 3 1 (by omega) (by omega) (by omega) [99#8] (by simp) [ab] (by simp) hAB1 _ R h) ?_; simp (disch := first | exact dsc | fail) only [go_sem, seval, c2, hr, lr, lA, lB, lC, lab, q1, q3, q0, k1, k0, k11, k3, k2, cells_db]
  refine CallD.still (fun R h => Contains_spec hG' [ab] (by simp) hAB1 3 2 (by omega) (by omega) (by omega) [99#8] (by simp) [ab] (by simp) hAB1 _ R h) ?_; simp (disch := first | exact dsc | fail) only [go_sem, seval, c3, hr, lr, lA, lB, lC, lab, q1, q3, q0, k1, k0, k11, k3, k2, cells_db]
  (repeat refine .z rfl ?_); refine .rt Tryd.func9 (by rw [Tryd.results9]) (hR := ?_); simp (disch := first | exact dsc | fail) only [go_sem, seval]
  exact h
end walks
end Go.Proofs.YthonhnpiglafkaaDoor

/-
  Hash trees: the walk of MerkleParts.
-/
namespace Go.Proofs.YthonhnpiglafkaaDoor
open Go Go.AL

theorem madeL_short (q : List By) (k : Nat) (hk : k ≤ 800000) : Short (madeL q k) := by
  intro i hi
  unfold madeL at hi ⊢
  by_cases z : madeN q k = 0
  · rw [if_pos z] at hi ⊢
    simp at hi; subst hi; simp [nth]
  · rw [if_neg z] at hi ⊢
    rw [cutL_len] at hi
    have : ∀ n i, i < n → (nth (cutL q n) i).length ≤ 70 := by
      intro n
      induction n with
      | zero => intro i hi; omega
      | succ n ih =>
        intro i hi
        rcases Nat.lt_or_ge i n with h1 | h1
        · have e : nth (cutL q (n + 1)) i = nth (cutL q n) i := by
            unfold nth
            rw [show cutL q (n + 1) = cutL q n ++ [(nth q n).take 70] from rfl, List.getElem?_append_left (by rw [cutL_len]; exact h1)]
          rw [e]; exact ih i h1
        · obtain rfl : i = n := by omega
          have e : nth (cutL q (i + 1)) i = (nth q i).take 70 := by
            show nth (cutL q i ++ [(nth q i).take 70]) i = _
            conv => lhs; unfold nth
            rw [List.getElem?_append_right (by rw [cutL_len]; omega), cutL_len, Nat.sub_self]
            rfl
          rw [e, List.length_take]; omega
    have := this _ i hi
    omega
theorem rootV_eq {ls : List By} (h1 : 1 ≤ ls.length) (h2 : ls.length ≤ 65536) : rootV ls = rootD ls := by
  rw [rootV, if_pos]
  unfold rootE
  rw [if_neg (by omega), if_neg (by omega)]
theorem rootE_eq {n : Nat} (h1 : 1 ≤ n) (h2 : n ≤ 65536) : rootE n = 0 := by
  unfold rootE
  rw [if_neg (by omega), if_neg (by omega)]

section walks
variable {G : Globs}
set_option maxHeartbeats 8000000 in
theorem Parts_spec (hG : GS G) (hT : GT G) (q : List By) (hq : q.length ≤ 9223372036854775807) (hb : ∀ i, i < q.length → (nth q i).length ≤ 9223372036854775807) (m : BitVec 64) (H : Hp) (R : AV → Hp → Prop) (h : R (.p (bo true)) H) :
    ACall Tryd.prog G 7 [.p (.agg [.sl false 1 (pl bs q), w64 m])] H R := by
  have hG' := hG
  obtain ⟨hG0, hG1⟩ := hG'
  have hl := madeL_len q 40
  have hs := madeL_short q 40 (by omega)
  refine ACall.of_run (raw := []) Tryd.func7 rfl Tryd.ntmps7 (by simp) fun hbel => ?_
  (repeat refine .z rfl ?_); refine .text ?_; simp (disch := first | exact dsc | fail) only [go_sem, seval]
  (repeat refine .z rfl ?_); refine .text ?_; simp (disch := first | exact dsc | fail) only [go_sem, seval]
  refine CallK.of (fun R h => sanity_spec hG hT _ R h) ?_; simp (disch := first | exact dsc | fail) only [go_sem, seval]
  (repeat refine .z rfl ?_); refine .text ?_; simp (disch := first | exact dsc | fail) only [go_sem, seval]
  refine CallK.of (fun R h => made_spec q hq hb m _ R h) ?_; simp (disch := first | exact dsc | fail) only [go_sem, seval]
  (repeat refine .z rfl ?_); refine .text ?_; simp (disch := first | exact dsc | fail) only [go_sem, seval]
  generalize madeL q 40 = ls at *
  have e0 : rootE ls.length = 0 := rootE_eq hl.2 (by omega)
  have lr : (rootD ls).length = 32 := rootD_len hl.2
  have hv : rootV ls = rootD ls := rootV_eq hl.2 (by omega)
  refine CallK.of (fun R h => Root_spec hG ls (by omega) hs _ R h) ?_; simp (disch := first | exact dsc | fail) only [go_sem, seval, e0, hv, lr]
  (repeat refine .z rfl ?_); refine .text ?_; simp (disch := first | exact dsc | fail) only [go_sem, seval]
  by_cases c : ls.length = 1
  · have hc : ((ls.length : Int) == 1) = true := by rw [c]; rfl
    have hr := rootD_one c
    have h0 := hs 0 (by omega)
    (repeat refine .z rfl ?_); refine .ifT (by simp (disch := first | exact dsc | fail) only [go_sem, seval, hc]) ?_
    have hcb : ∀ x : By, bs x = .sl false 1 (pl b8 x) := fun _ => rfl
    generalize hx : nth ls 0 = x at *
    (repeat refine .z rfl ?_); refine .open [] follows (by kernel_rfl) ?_; simp (disch := first | exact dsc | fail) only [go_sem, seval, hc, e0, lr, hr, hx, hcb]
    refine CallD.still (fun R h => LeafR_spec x (by omega) _ R h) ?_; simp (disch := first | exact dsc | fail) only [go_sem, seval, lr, hr]
    (repeat refine .z rfl ?_); refine .rt Tryd.func7 (by rw [Tryd.results7]) (hR := ?_); simp (disch := first | exact dsc | fail) only [go_sem, seval]
    exact h
  · have hc : ((ls.length : Int) == 1) = false := by rw [beq_eq_false_iff_ne]; omega
    have h2 : 2 ≤ ls.length := by omega
    have hr := rootD_two h2
    have hsl := spl_lt h2
    have hle := Nat.log2_self_le (n := ls.length - 1) (by omega)
    have hno : decide (2 * ((2 ^ Nat.log2 (ls.length - 1) : Nat) : Int) < (ls.length : Int)) = false := by unfold spl at hsl; simp only [decide_eq_false_iff_not]; omega
    (repeat refine .z rfl ?_); refine .ifF (by simp (disch := first | exact dsc | fail) only [go_sem, seval, hc]) ?_
    (repeat refine .z rfl ?_); refine .text ?_; simp (disch := first | exact dsc | fail) only [go_sem, seval, hc]
    (repeat refine .z rfl ?_); refine .loopE [3, 4, 6, 7] (fun w => [(8, .p (i64 (2 ^ w : Nat)))]) (fun w => []) (fun w => True) (0) (Nat.log2 (ls.length - 1)) (by omega) ?_ (by first | rfl | (simp (disch := first | exact dsc | fail) only [go_sem, seval] <;> rfl)) ?_ ?_ ?_
    · simp (disch := first | exact dsc | fail) only [go_sem, seval] <;> (repeat' (first | rfl | refine And.intro ?_ ?_))
    · exact trivial
    intro env E hQ; simp (disch := first | exact dsc | fail) only [go_sem, seval] at E
    rotate_left 1
    intro w env hw0 hw E hQ ihE; simp (disch := first | exact dsc | fail) only [go_sem, seval] at E
    rotate_left 1
    · have hwr : IntKind.i64.wrap (2 * ((2 ^ Nat.log2 (ls.length - 1) : Nat) : Int)) = 2 * ((2 ^ Nat.log2 (ls.length - 1) : Nat) : Int) := by
        generalize 2 ^ Nat.log2 (ls.length - 1) = K at hle ⊢
        simp (disch := first | exact dsc | fail) only [go_sem, seval]
      (repeat refine .z rfl ?_); refine .text ?_; simp (disch := first | exact dsc | fail) only [go_sem, seval, E, hwr, hno]
      (repeat refine .z rfl ?_); refine .ifF (by simp (disch := first | exact dsc | fail) only [go_sem, seval]) ?_
      have he : 2 ^ Nat.log2 (ls.length - 1) = spl ls.length := rfl
      generalize hK : 2 ^ Nat.log2 (ls.length - 1) = K at *
      subst he
      generalize spl ls.length = K at *
      have lt : (ls.take K).length = K := by rw [List.length_take]; omega
      have ld : (ls.drop K).length = ls.length - K := by rw [List.length_drop]
      have lra : (rootD (ls.take K)).length = 32 := rootD_len (by omega)
      have lrb : (rootD (ls.drop K)).length = 32 := rootD_len (by omega)
      have hva : rootV (ls.take K) = rootD (ls.take K) := rootV_eq (by omega) (by omega)
      have hvb : rootV (ls.drop K) = rootD (ls.drop K) := rootV_eq (by omega) (by omega)
      have e1 : rootE K = 0 := rootE_eq (by omega) (by omega)
      have e2 : rootE (ls.length - K) = 0 := rootE_eq (by omega) (by omega)
      (repeat refine .z rfl ?_); refine .text ?_; simp (disch := first | exact dsc | fail) only [go_sem, seval, E]
      refine CallK.of (fun R h => Root_spec hG (ls.take K) (by omega) (hs.take K) _ R h) ?_; simp (disch := first | exact dsc | fail) only [go_sem, seval, E, e1, lt, hva, lra]
      (repeat refine .z rfl ?_); refine .text ?_; simp (disch := first | exact dsc | fail) only [go_sem, seval, E]
      refine CallK.of (fun R h => Root_spec hG (ls.drop K) (by omega) (hs.drop K) _ R h) ?_; simp (disch := first | exact dsc | fail) only [go_sem, seval, E, e2, ld, hvb, lrb]
      generalize rootD ls = r at *
      generalize rootD (ls.take K) = x at *
      generalize rootD (ls.drop K) = y at *
      (repeat refine .z rfl ?_); refine .open [] follows (by kernel_rfl) ?_; simp (disch := first | exact dsc | fail) only [go_sem, seval, E, lr, lra, lrb, e0, e1, e2, hr]
      refine CallD.still (fun R h => PairR_spec x y lra lrb _ R h) ?_; simp (disch := first | exact dsc | fail) only [go_sem, seval, E, lr, lra, lrb, hr]
      (repeat refine .z rfl ?_); refine .rt Tryd.func7 (by rw [Tryd.results7]) (hR := ?_); simp (disch := first | exact dsc | fail) only [go_sem, seval]
      exact h
    · have hlt : 2 ^ (w + 1) ≤ 2 ^ Nat.log2 (ls.length - 1) := Nat.pow_le_pow_right (by omega) (by omega)
      rw [Nat.pow_succ] at hlt
      have hp : ((2 ^ (w + 1) : Nat) : Int) = 2 * ((2 ^ w : Nat) : Int) := by rw [Nat.pow_succ]; omega
      have hyes : decide (2 * ((2 ^ w : Nat) : Int) < (ls.length : Int)) = true := by simp only [decide_eq_true_eq]; omega
      (repeat refine .z rfl ?_); refine .text ?_; simp (disch := first | exact dsc | fail) only [go_sem, seval, E, hyes]
      (repeat refine .z rfl ?_); refine .ifT (by simp (disch := first | exact dsc | fail) only [go_sem, seval]) ?_
      (repeat refine .z rfl ?_); refine .text ?_; simp (disch := first | exact dsc | fail) only [go_sem, seval, E]
      first | (refine ihE _ _ ?_ trivial ?_) | (refine .z rfl ?_; refine ihE _ _ ?_ trivial ?_) | (refine .z rfl ?_; refine .z rfl ?_; refine ihE _ _ ?_ trivial ?_) | (refine .z rfl ?_; refine .z rfl ?_; refine .z rfl ?_; refine ihE _ _ ?_ trivial ?_)
      · simp (disch := first | exact dsc | fail) only [go_sem, seval, E, hp] <;> (repeat' (first | rfl | refine And.intro ?_ ?_))
      · first | rfl | (simp (disch := first | exact dsc | fail) only [go_sem, seval, E, hp] <;> (try rfl))
end walks
end Go.Proofs.YthonhnpiglafkaaDoor

/-
  What the laws' rows give their walks: the tables, a world for the witness, what the arguments read as.
-/
namespace Go.Proofs.YthonhnpiglafkaaDoor
open Go Go.AL Go.ChangeShapes Go.WideShapes Go.ChangeAt Go.RowKit

theorem own : ownKnob Tryd.prog.godebug = none := by kernel_rfl
theorem laidOut : laidOutB Tryd.prog = true := by kernel_rfl
/-- The tables' names. -/
def nI : String := Rows.merklePartsRow.named[0]!
def nC : String := Rows.merklePartsRow.named[1]!
def nS : String := Rows.merklePartsRow.named[2]!
def nT : String := Rows.merklePartsRow.named[3]!
theorem gConst : Tryd.prog.globalNamed nC = some 3 := by kernel_rfl
theorem gInit : Tryd.prog.globalNamed nI = some 0 := by kernel_rfl
theorem gTab : Tryd.prog.globalNamed nT = some 2 := by kernel_rfl
theorem gConstT : (Tryd.prog.globals[3]?).map (·.type) = some 128 := by kernel_rfl
theorem gInitT : (Tryd.prog.globals[0]?).map (·.type) = some 115 := by kernel_rfl
theorem gTabT : (Tryd.prog.globals[2]?).map (·.type) = some 125 := by kernel_rfl

def kz : List Int := ks.map fun x => (x.toNat : Int)
def iz : List Int := inits.map fun x => (x.toNat : Int)
def tz : List Int := dbt.map fun x => (x.toNat : Int)
def sz32 : List Int := [0, 1, 28, 2, 29, 14, 24, 3, 30, 22, 20, 15, 25, 17, 4, 8, 31, 27, 13, 23, 21, 19, 16, 7, 26, 12, 18, 6, 11, 5, 10, 9]

theorem met_tail {P : Program} {x : String × DataW Unit} {l : List (String × DataW Unit)} {W : World} (h : laidMet P (x :: l) W) : laidMet P l W := by
  obtain ⟨ps, ⟨g', t', cs, fuel, p, q, _, _, _, _, hq, hps⟩, hn, ha⟩ := h
  subst hps
  exact ⟨q, hq, (List.nodup_append.1 hn).2.1, fun b off hb => ha b off (List.mem_append_right _ hb)⟩
theorem tables {W : World} (h : laidMetH Tryd.prog Rows.merklePartsRow.laid W) : Lib.TabIs Tryd.prog W nC .u32 kz ∧ Lib.TabIs Tryd.prog W nI .u32 iz ∧ Lib.TabIs Tryd.prog W nT .u8 tz := by
  have h : laidMet Tryd.prog [(nS, Lib.tabData .u8 sz32), (nT, Lib.tabData .u8 tz), (nC, Lib.tabData .u32 kz), (nI, Lib.tabData .u32 iz)] W := h
  have h2 := met_tail h
  have h3 := met_tail h2
  have h4 := met_tail h3
  exact ⟨Lib.tabIs_of_head gConst gConstT Tryd.underlying128 Tryd.underlying110 cells110 cells128 h3,
    Lib.tabIs_of_head gInit gInitT Tryd.underlying115 Tryd.underlying110 cells110 cells115 h4,
    Lib.tabIs_of_head gTab gTabT Tryd.underlying125 Tryd.underlying5 cells5 cells125 h2⟩

/-- A package-level table of bytes. -/
theorem glob_bytes {P : Program} {W : World} {name : String} {g : Nat} {l : List (BitVec 8)} {zs : List Int} (h : Lib.TabIs P W name .u8 zs) (hg : P.globalNamed name = some g) (hz : zs = l.map fun x => (x.toNat : Int)) (hl : 0 < l.length) :
    RelV σ0 H0 W (.ip l.length [.agg (pl b8 l)] 0 0) (.pointer (some ⟨g, 0, none⟩)) := by
  subst hz
  have hcell : ∀ i, i < l.length → W.cell? ⟨g, i, none⟩ = some (.int .u8 ((l[i]?).getD 0).toNat) := fun i hi => by
    have := h.cell hg i (by simpa using hi)
    rw [this]
    simp [List.getD, hi]
  have := RelV.ip (σ := σ0) (H := H0) (w := W) (sz := l.length) (xs := [.agg (pl b8 l)]) (i := 0) (sub := 0) (g := g) (off := 0) (cap := 1)
    (.sl false _ _ _ 0 1 (fun k => .int .u8 ((l[k]?).getD 0).toNat) (by simp) ⟨by simp, by unfold maxLen; omega⟩ (fun x hx => by simp only [List.mem_singleton] at hx; subst hx; exact pl_len)
      (fun k hk => by
        simp only [List.length_singleton, Nat.one_mul] at hk
        rw [Nat.zero_add]
        exact ⟨stable0 _ _, hcell k hk, rfl⟩)
      (fun k y hy => by
        have : flat [PV.agg (pl b8 l)] = pl b8 l := by simp [flat, PV.cells]
        rw [this] at hy
        simp only [pl, List.getElem?_map, Option.map_eq_some_iff] at hy
        obtain ⟨x, hx, rfl⟩ := hy
        rw [hx]
        exact .s _ rfl)) (by simp) hl
  simpa using this

/-- What the tables hold. -/
def GG : Globs := fun g => if g = 0 then some (8, [.agg (pl w32 inits)]) else if g = 3 then some (64, [.agg (pl w32 ks)]) else if g = 2 then some (64, [.agg (pl b8 dbt)]) else none
theorem GG_ok : GS GG := ⟨rfl, rfl⟩
theorem GG_t : GT GG := rfl
theorem rel_start {W : World} (h : laidMetH Tryd.prog Rows.merklePartsRow.laid W) : Rel GG σ0 H0 W := rel0 fun g sz xs hg => by
  obtain ⟨h1, h0, h2⟩ := tables h
  unfold GG at hg
  split at hg
  · rename_i e; subst e; cases hg
    exact glob_words (l := inits) h0 gInit rfl (by decide)
  · split at hg
    · rename_i e; subst e; cases hg
      exact glob_words (l := ks) h1 gConst rfl (by decide)
    · split at hg
      · rename_i e; subst e; cases hg
        exact glob_bytes (l := dbt) h2 gTab rfl (by decide)
      · cases hg

/-- A world for the witness: the settled one, the tables holding what their initialisers lay. -/
noncomputable def laidWorld (os : Os) : World :=
  let w := World.holding Tryd.prog os ⟨#[], #[], []⟩
  { w with heap := (((w.heap.modify 0 fun
      | .cells _ t frozen => .cells (iz.map fun z => Value.int .u32 z).toArray t frozen
      | o => o).modify 3 fun
      | .cells _ t frozen => .cells (kz.map fun z => Value.int .u32 z).toArray t frozen
      | o => o).modify 2 fun
      | .cells _ t frozen => .cells (tz.map fun z => Value.int .u8 z).toArray t frozen
      | o => o).modify 1 fun
      | .cells _ t frozen => .cells (sz32.map fun z => Value.int .u8 z).toArray t frozen
      | o => o }

set_option maxRecDepth 100000 in
theorem laid_met (os : Os) (args : Array Value) : laidMet Tryd.prog Rows.merklePartsRow.laid ((laidWorld os).forCall (fun _ _ => 0) ⟨#[], args, []⟩).memory :=
  laidMet_of_run' 8 (by kernel_rfl) (by kernel_rfl)

set_option maxRecDepth 100000
section read
variable {k : Nat} {y : List PV}
theorem rd_bytes (h : Reads Tryd.prog (k + 2) 44 y) : ∃ l : By, l.length ≤ 9223372036854775807 ∧ y = [bs l] := by
  obtain ⟨l, h1, rfl, -⟩ := Reads.sl b8 (fun _ => True) Tryd.underlying44 cells5 aggT5 h fun y hy => by
    obtain ⟨b, rfl⟩ := Reads.u8 Tryd.underlying5 hy
    exact ⟨b, rfl, trivial⟩
  exact ⟨l, h1, rfl⟩
theorem rd_rows (h : Reads Tryd.prog (k + 3) 22 y) : ∃ ls : List By, ls.length ≤ 9223372036854775807 ∧ y = [.sl false 1 (pl bs ls)] ∧ ∀ l ∈ ls, l.length ≤ 9223372036854775807 :=
  Reads.sl bs (fun l => l.length ≤ 9223372036854775807) Tryd.underlying22 cells44 aggT44 h fun y hy => by
    obtain ⟨l, h1, rfl⟩ := rd_bytes hy
    exact ⟨l, rfl, h1⟩
end read

section rel
variable {W : World} {v : Value} {H : Type} {enc : TypeId × Value → H} {d : DataW H} {ps : List MemPlace} {base : Nat}
theorem rel_query (hval : Value.okWide Tryd.prog W .any base 25 v) (h : DataW.Trod enc Tryd.prog W 0 (fun _ => true) true 25 v d ps) :
    ∃ (q : List By) (m : BitVec 64), q.length ≤ 9223372036854775807 ∧ (∀ i, i < q.length → (nth q i).length ≤ 9223372036854775807) ∧ RelV σ0 H0 W (.p (.agg [.sl false 1 (pl bs q), w64 m])) v := by
  obtain ⟨xs, hx, e⟩ := rel_read 8 (by kernel_rfl) hval h
  obtain ⟨y1, z1, rfl, -, r1, y2, z2, rfl, -, r2, rfl⟩ := Reads.struct (k := 7) Tryd.underlying25 hx
  obtain ⟨q, h1, rfl, h2⟩ := rd_rows r1
  obtain ⟨m, rfl⟩ := Reads.u64 Tryd.underlying23 r2
  rw [aggT25] at e
  exact ⟨q, m, h1, fun i hi => h2 _ (nth_mem hi), e⟩
end rel
end Go.Proofs.YthonhnpiglafkaaDoor
