/-
  The walk of OptimizeNormalForms.
-/
import Derived.Test.YtjnbifkojpfdgaaPkS2
import Derived.Test.YtjnbifkojpfdgaaRows
set_option linter.unusedSimpArgs false
set_option linter.unusedVariables false
namespace Go.Proofs.Ytjnbifkojpfdgaa
open Go Go.AL

theorem foldG_usesAt {c : Circ} (hv : Vd c) {k i : Nat} (hk : k < c.layers.length) (hi : i < (nth (fold goG c).layers k).length) :
    (usesR (nth (nth (fold goG c).layers k) i) = true → usesL (nth (nth (fold goG c).layers k) i) = true ∧ (nth (nth (fold goG c).layers k) i).l ≤ (nth (nth (fold goG c).layers k) i).r) ∧
    (0 < k → usesL (nth (nth (fold goG c).layers k) i) = true → konst (nth (nth (fold goG c).layers (k - 1)) (nth (nth (fold goG c).layers k) i).l.toNat) = false) ∧
    (0 < k → usesR (nth (nth (fold goG c).layers k) i) = true → konst (nth (nth (fold goG c).layers (k - 1)) (nth (nth (fold goG c).layers k) i).r.toNat) = false) := by
  rw [fold_eq hv] at hi ⊢
  have hn : nth (fold foldG c).layers k = fl foldG c.layers k := nth_tab hk
  rw [hn] at hi ⊢
  rw [fl_len] at hi
  obtain ⟨q, _⟩ := fold_nf hv hk hi
  have hp : 0 < k → pv foldG c.layers k = nth (fold foldG c).layers (k - 1) := fun h0 => by
    rw [pv, if_neg (by omega)]; exact (nth_tab (by omega)).symm
  have hb : 0 < k → (k == 0) = false := fun h0 => by simp; omega
  exact ⟨q.rl, fun h0 hu => by rw [← hp h0]; exact q.kl (hb h0) hu, fun h0 hu => by rw [← hp h0]; exact q.kr (hb h0) hu⟩

section walks
variable {G : Globs}

set_option maxHeartbeats 8000000 in
theorem W19_NormalForms_spec (c : Circ) (cols : List (List U)) (lg : BitVec 8) (hl : c.layers.length ≤ 9223372036854775807) (hr : ∀ i, i < c.layers.length → (nth c.layers i).length ≤ 9223372036854775807) (hl2 : cols.length ≤ 9223372036854775807) (hr2 : ∀ i, i < cols.length → (nth cols i).length ≤ 9223372036854775807)
    (H : Hp) (R : AV → Hp → Prop) (h : R (.p (bo true)) H) : ACall Try.prog G 7 [.p (inpV c cols lg)] H R := by
  refine ACall.of_run (raw := []) Try.func7 rfl Try.ntmps7 (by simp) fun hbel => ?_
  have hv := made_vd c
  (repeat refine .z rfl ?_); refine .text ?_; simp (disch := first | exact dsc | fail) only [go_sem, seval]
  (repeat refine .z rfl ?_); refine .text ?_; simp (disch := first | exact dsc | fail) only [go_sem, seval]
  refine CallK.of (fun R h => W19_sanity_spec _ R h) ?_; simp (disch := first | exact dsc | fail) only [go_sem, seval]
  (repeat refine .z rfl ?_); refine .text ?_; simp (disch := first | exact dsc | fail) only [go_sem, seval]
  refine CallK.of (fun R h => W19_made_spec c cols lg hl hr hl2 hr2 _ R h) ?_; simp (disch := first | exact dsc | fail) only [go_sem, seval]
  generalize made c = m at *
  (repeat refine .z rfl ?_); refine .openF 6 9 12 [6, 7, 8, 9, 10, 11] follows (by kernel_rfl) (by kernel_rfl) ?_; simp (disch := first | exact dsc | fail) only [go_sem, seval]
  refine CallQE.of (fun H R h => optimize_Fold_spec m hv.ok H R h) (by first | exact .p _ | simp (disch := first | exact dsc | fail) only [go_sem, seval]) ?_; simp (disch := first | exact dsc | fail) only [go_sem, seval]
  refine CallQE.of (fun H R h => optimize_Share_spec m hv.ok H R h) (by first | exact .p _ | simp (disch := first | exact dsc | fail) only [go_sem, seval]) ?_; simp (disch := first | exact dsc | fail) only [go_sem, seval]
  refine CallQE.of (fun H R h => optimize_Dead_spec m hv.ok H R h) (by first | exact .p _ | simp (disch := first | exact dsc | fail) only [go_sem, seval]) ?_; simp (disch := first | exact dsc | fail) only [go_sem, seval]
  have vf : Vd (fold goG m) := by rw [fold_eq hv]; exact hv.fold
  have vs := hv.share
  have vd := hv.dead
  have lf : (fold goG m).layers.length = m.layers.length := tab_len
  have ls : (share m).layers.length = m.layers.length := tab_len
  have ld : (deadG m).layers.length = m.layers.length := tab_len
  have nF := fun k i hk hi => foldG_usesAt (k := k) (i := i) hv hk hi
  have nS := fun k hk => share_dif (c := m) (k := k) hk
  have nD : ∀ k, k + 1 < m.layers.length → (nth (deadG m).layers k).length = 1 ∨ ∀ i, i < (nth (deadG m).layers k).length → usedB (nth (deadG m).layers (k + 1)) (i : Int) = true := by
    rw [dead_eq hv.ok]; exact fun k hk => dead_used hv.ok hk
  have nZ : ∀ k i, k < m.layers.length → i < (nth (deadG m).layers k).length → zeroU (nth (nth (deadG m).layers k) i) = nth (nth (deadG m).layers k) i := by
    rw [dead_eq hv.ok]; exact fun k i hk hi => dead_zero hk hi
  have hml := hv.ok.len
  generalize fold goG m = F at *
  generalize share m = S at *
  generalize deadG m = D at *
  (repeat refine .z rfl ?_); refine .text ?_; simp (disch := first | exact dsc | fail) only [go_sem, seval]
  refine CallK.of (fun R h => R16_Valid_spec _ vf _ R h) ?_; simp (disch := first | exact dsc | fail) only [go_sem, seval]
  refine CallK.of (fun R h => R16_Valid_spec _ vs _ R h) ?_; simp (disch := first | exact dsc | fail) only [go_sem, seval]
  refine CallK.of (fun R h => R16_Valid_spec _ vd _ R h) ?_; simp (disch := first | exact dsc | fail) only [go_sem, seval, lf, ls, ld, bne_self_eq_false]
  (repeat refine .z rfl ?_); refine .ifF (by simp (disch := first | exact dsc | fail) only [go_sem, seval]) ?_
  refine .skip ?_
  (repeat refine .z rfl ?_); refine .text ?_; simp (disch := first | exact dsc | fail) only [go_sem, seval]
  (repeat refine .z rfl ?_); first | refine .loopF0 [3, 4, 6, 7, 8] (fun k => [(9, .p (i64 k))]) (fun k => True) (0) (m.layers.length) (by omega) ?_ ?_ ?_ ?_ | refine .loopF [3, 4, 6, 7, 8] (fun k => [(9, .p (i64 k))]) (fun _ => []) (fun k => True) (0) (m.layers.length) (by omega) ?_ (by rfl) ?_ ?_ ?_
  · simp (disch := first | exact dsc | fail) only [go_sem, seval] <;> (repeat' (first | rfl | refine And.intro ?_ ?_))
  · exact trivial
  intro env T E hQ; simp (disch := first | exact dsc | fail) only [go_sem, seval] at E
  rotate_left 1
  intro k env T hk0 hk E hQ ihE; simp (disch := first | exact dsc | fail) only [go_sem, seval] at E
  rotate_left 1
  · (repeat refine .z rfl ?_); refine .text ?_; simp (disch := first | exact dsc | fail) only [go_sem, seval, E]
    (repeat refine .z rfl ?_); refine .ifF (by simp (disch := first | exact dsc | fail) only [go_sem, seval]) ?_
    (repeat refine .z rfl ?_); refine .text ?_; simp (disch := first | exact dsc | fail) only [go_sem, seval, E]
    (repeat refine .z rfl ?_); refine .rt Try.func7 (by rw [Try.results7]) (hR := ?_); simp (disch := first | exact dsc | fail) only [go_sem, seval]
    exact h
  · have hrF := (vf.ok.row k (by omega)).2
    have hrS := (vs.ok.row k (by omega)).2
    have hrS1 := (vs.ok.row k (by omega)).1
    have hrD := (vd.ok.row k (by omega)).2
    (repeat refine .z rfl ?_); refine .text ?_; simp (disch := first | exact dsc | fail) only [go_sem, seval, E]
    (repeat refine .z rfl ?_); refine .ifT (by simp (disch := first | exact dsc | fail) only [go_sem, seval]) ?_
    (repeat refine .z rfl ?_); refine .text ?_; simp (disch := first | exact dsc | fail) only [go_sem, seval]
    (repeat refine .zs rfl ?_); first | refine .cutF0 [3, 4, 6, 7, 8, 9] [] (fun ihE2 => ?_) (fun env T E2 => ?_) | refine .cutF [3, 4, 6, 7, 8, 9] [] [] (fun ihE2 => ?_) (fun env T E2 => ?_)
    rotate_left 1
    simp (disch := first | exact dsc | fail) only [go_sem, seval, E] at E2
    rotate_left 1
    · (repeat refine .z rfl ?_); first | refine .loopF0 [3, 4, 6, 7, 8, 9] (fun i => [(10, .p (i64 i))]) (fun i => True) (0) ((nth F.layers k).length) (by omega) ?_ ?_ ?_ ?_ | refine .loopF [3, 4, 6, 7, 8, 9] (fun i => [(10, .p (i64 i))]) (fun _ => []) (fun i => True) (0) ((nth F.layers k).length) (by omega) ?_ (by rfl) ?_ ?_ ?_
      · simp (disch := first | exact dsc | fail) only [go_sem, seval, E] <;> (repeat' (first | rfl | refine And.intro ?_ ?_))
      · exact trivial
      intro env T J hQ; simp (disch := first | exact dsc | fail) only [go_sem, seval, E] at J
      rotate_left 1
      intro i env T hi0 hi J hQ ihJ; simp (disch := first | exact dsc | fail) only [go_sem, seval, E] at J
      rotate_left 1
      · (repeat refine .z rfl ?_); refine .text ?_; simp (disch := first | exact dsc | fail) only [go_sem, seval, J]
        (repeat refine .z rfl ?_); refine .ifF (by simp (disch := first | exact dsc | fail) only [go_sem, seval]) ?_
        first | (refine ihE2 _ _ ?_ ?_) | (refine .z rfl ?_; refine ihE2 _ _ ?_ ?_) | (refine .z rfl ?_; refine .z rfl ?_; refine ihE2 _ _ ?_ ?_) | (refine .z rfl ?_; refine .z rfl ?_; refine .z rfl ?_; refine ihE2 _ _ ?_ ?_)
        · simp (disch := first | exact dsc | fail) only [go_sem, seval, J, E] <;> (repeat' (first | rfl | refine And.intro ?_ ?_))
        · first | exact .mk _ rfl | (apply Later.mk; simp (disch := first | exact dsc | fail) only [go_sem, seval, app_push, J, E]; exact rfl) | (apply Later.mk; simp (disch := first | exact dsc | fail) only [go_sem, seval, app_push, app_app, List.append_assoc, J, E] <;> (try rfl))
      · (repeat refine .z rfl ?_); refine .text ?_; simp (disch := first | exact dsc | fail) only [go_sem, seval, J]
        (repeat refine .z rfl ?_); refine .ifT (by simp (disch := first | exact dsc | fail) only [go_sem, seval]) ?_
        obtain ⟨n1, n2, n3⟩ := nF k i hk hi
        have ho := vf.ok.op k (by omega) i hi
        obtain ⟨g, hg⟩ : ∃ g, nth (nth F.layers k) i = g := ⟨_, rfl⟩
        rw [hg] at n1 n2 n3 ho
        (repeat refine .z rfl ?_); refine .text ?_; simp (disch := first | exact dsc | fail) only [go_sem, seval, J, hg]
        have hw : 0 < k → wid F k = ((nth F.layers (k - 1)).length : Int) := fun h0 => by rw [wid, if_neg (by omega)]
        have hk1 : 0 < k → ((k : Int) - 1).toNat = k - 1 := fun h0 => by omega
        by_cases hR : usesR g = true
        · obtain ⟨hL, hle⟩ := n1 hR
          have hlt : decide (g.r < g.l) = false := by simp; omega
          by_cases h0 : k = 0
          · subst h0
            (repeat refine .z rfl ?_); refine .open [] follows (by kernel_rfl) ?_; simp (disch := first | exact dsc | fail) only [go_sem, seval, J, hlt]
            (repeat (first | refine CallD.still (fun R h => R19_UsesRight_spec _ _ R h) ?_; simp (disch := first | exact dsc | fail) only [go_sem, seval, hR, hL, J, hlt] | refine CallD.still (fun R h => R19_UsesLeft_spec _ _ R h) ?_; simp (disch := first | exact dsc | fail) only [go_sem, seval, hR, hL, J, hlt] | refine CallD.still (fun R h => R19_Constant_spec _ _ R h) ?_; simp (disch := first | exact dsc | fail) only [go_sem, seval, hR, hL, J, hlt]))
            (repeat refine .z rfl ?_); refine .ifF (by simp (disch := first | exact dsc | fail) only [go_sem, seval]) ?_
            refine .skip ?_
            (repeat refine .z rfl ?_); refine .text ?_; simp (disch := first | exact dsc | fail) only [go_sem, seval, J]
            first | (refine ihJ _ _ ?_ trivial ?_) | (refine .z rfl ?_; refine ihJ _ _ ?_ trivial ?_) | (refine .z rfl ?_; refine .z rfl ?_; refine ihJ _ _ ?_ trivial ?_) | (refine .z rfl ?_; refine .z rfl ?_; refine .z rfl ?_; refine ihJ _ _ ?_ trivial ?_)
            · simp (disch := first | exact dsc | fail) only [go_sem, seval, J, E] <;> (repeat' (first | rfl | refine And.intro ?_ ?_))
            · first | exact .mk _ rfl | (apply Later.mk; simp (disch := first | exact dsc | fail) only [go_sem, seval, app_push, J, E]; exact rfl) | (apply Later.mk; simp (disch := first | exact dsc | fail) only [go_sem, seval, app_push, app_app, List.append_assoc, J, E] <;> (try rfl))
          · have h0' : 0 < k := by omega
            rw [hw h0'] at ho
            obtain ⟨o1, o2, o3, o4⟩ := ho
            have hk2 := hk1 h0'
            have hlt2 : decide ((0 : Int) < (k : Int)) = true := by simp; omega
            have c1 := n2 h0' hL
            have c2 := n3 h0' hR
            (repeat refine .z rfl ?_); refine .open [] follows (by kernel_rfl) ?_; simp (disch := first | exact dsc | fail) only [go_sem, seval, J, hlt, hlt2, hk2]
            (repeat (first | refine CallD.still (fun R h => R19_UsesRight_spec _ _ R h) ?_; simp (disch := first | exact dsc | fail) only [go_sem, seval, hR, hL, c1, c2, J, hlt, hlt2, hk2] | refine CallD.still (fun R h => R19_UsesLeft_spec _ _ R h) ?_; simp (disch := first | exact dsc | fail) only [go_sem, seval, hR, hL, c1, c2, J, hlt, hlt2, hk2] | refine CallD.still (fun R h => R19_Constant_spec _ _ R h) ?_; simp (disch := first | exact dsc | fail) only [go_sem, seval, hR, hL, c1, c2, J, hlt, hlt2, hk2]))
            (repeat refine .z rfl ?_); refine .ifF (by simp (disch := first | exact dsc | fail) only [go_sem, seval]) ?_
            refine .skip ?_
            (repeat refine .z rfl ?_); refine .text ?_; simp (disch := first | exact dsc | fail) only [go_sem, seval, J]
            first | (refine ihJ _ _ ?_ trivial ?_) | (refine .z rfl ?_; refine ihJ _ _ ?_ trivial ?_) | (refine .z rfl ?_; refine .z rfl ?_; refine ihJ _ _ ?_ trivial ?_) | (refine .z rfl ?_; refine .z rfl ?_; refine .z rfl ?_; refine ihJ _ _ ?_ trivial ?_)
            · simp (disch := first | exact dsc | fail) only [go_sem, seval, J, E] <;> (repeat' (first | rfl | refine And.intro ?_ ?_))
            · first | exact .mk _ rfl | (apply Later.mk; simp (disch := first | exact dsc | fail) only [go_sem, seval, app_push, J, E]; exact rfl) | (apply Later.mk; simp (disch := first | exact dsc | fail) only [go_sem, seval, app_push, app_app, List.append_assoc, J, E] <;> (try rfl))
        · have hR : usesR g = false := by simpa using hR
          by_cases h0 : k = 0
          · subst h0
            (repeat refine .z rfl ?_); refine .open [] follows (by kernel_rfl) ?_; simp (disch := first | exact dsc | fail) only [go_sem, seval, J]
            (repeat (first | refine CallD.still (fun R h => R19_UsesRight_spec _ _ R h) ?_; simp (disch := first | exact dsc | fail) only [go_sem, seval, hR, J] | refine CallD.still (fun R h => R19_UsesLeft_spec _ _ R h) ?_; simp (disch := first | exact dsc | fail) only [go_sem, seval, hR, J] | refine CallD.still (fun R h => R19_Constant_spec _ _ R h) ?_; simp (disch := first | exact dsc | fail) only [go_sem, seval, hR, J]))
            (repeat refine .z rfl ?_); refine .ifF (by simp (disch := first | exact dsc | fail) only [go_sem, seval]) ?_
            refine .skip ?_
            (repeat refine .z rfl ?_); refine .text ?_; simp (disch := first | exact dsc | fail) only [go_sem, seval, J]
            first | (refine ihJ _ _ ?_ trivial ?_) | (refine .z rfl ?_; refine ihJ _ _ ?_ trivial ?_) | (refine .z rfl ?_; refine .z rfl ?_; refine ihJ _ _ ?_ trivial ?_) | (refine .z rfl ?_; refine .z rfl ?_; refine .z rfl ?_; refine ihJ _ _ ?_ trivial ?_)
            · simp (disch := first | exact dsc | fail) only [go_sem, seval, J, E] <;> (repeat' (first | rfl | refine And.intro ?_ ?_))
            · first | exact .mk _ rfl | (apply Later.mk; simp (disch := first | exact dsc | fail) only [go_sem, seval, app_push, J, E]; exact rfl) | (apply Later.mk; simp (disch := first | exact dsc | fail) only [go_sem, seval, app_push, app_app, List.append_assoc, J, E] <;> (try rfl))
          · have h0' : 0 < k := by omega
            rw [hw h0'] at ho
            obtain ⟨o1, o2, o3, o4⟩ := ho
            have hk2 := hk1 h0'
            have hlt2 : decide ((0 : Int) < (k : Int)) = true := by simp; omega
            by_cases hL : usesL g = true
            · have c1 := n2 h0' hL
              (repeat refine .z rfl ?_); refine .open [] follows (by kernel_rfl) ?_; simp (disch := first | exact dsc | fail) only [go_sem, seval, J, hlt2, hk2]
              (repeat (first | refine CallD.still (fun R h => R19_UsesRight_spec _ _ R h) ?_; simp (disch := first | exact dsc | fail) only [go_sem, seval, hR, hL, c1, J, hlt2, hk2] | refine CallD.still (fun R h => R19_UsesLeft_spec _ _ R h) ?_; simp (disch := first | exact dsc | fail) only [go_sem, seval, hR, hL, c1, J, hlt2, hk2] | refine CallD.still (fun R h => R19_Constant_spec _ _ R h) ?_; simp (disch := first | exact dsc | fail) only [go_sem, seval, hR, hL, c1, J, hlt2, hk2]))
              (repeat refine .z rfl ?_); refine .ifF (by simp (disch := first | exact dsc | fail) only [go_sem, seval]) ?_
              refine .skip ?_
              (repeat refine .z rfl ?_); refine .text ?_; simp (disch := first | exact dsc | fail) only [go_sem, seval, J]
              first | (refine ihJ _ _ ?_ trivial ?_) | (refine .z rfl ?_; refine ihJ _ _ ?_ trivial ?_) | (refine .z rfl ?_; refine .z rfl ?_; refine ihJ _ _ ?_ trivial ?_) | (refine .z rfl ?_; refine .z rfl ?_; refine .z rfl ?_; refine ihJ _ _ ?_ trivial ?_)
              · simp (disch := first | exact dsc | fail) only [go_sem, seval, J, E] <;> (repeat' (first | rfl | refine And.intro ?_ ?_))
              · first | exact .mk _ rfl | (apply Later.mk; simp (disch := first | exact dsc | fail) only [go_sem, seval, app_push, J, E]; exact rfl) | (apply Later.mk; simp (disch := first | exact dsc | fail) only [go_sem, seval, app_push, app_app, List.append_assoc, J, E] <;> (try rfl))
            · have hL : usesL g = false := by simpa using hL
              (repeat refine .z rfl ?_); refine .open [] follows (by kernel_rfl) ?_; simp (disch := first | exact dsc | fail) only [go_sem, seval, J, hlt2, hk2]
              (repeat (first | refine CallD.still (fun R h => R19_UsesRight_spec _ _ R h) ?_; simp (disch := first | exact dsc | fail) only [go_sem, seval, hR, hL, J, hlt2, hk2] | refine CallD.still (fun R h => R19_UsesLeft_spec _ _ R h) ?_; simp (disch := first | exact dsc | fail) only [go_sem, seval, hR, hL, J, hlt2, hk2] | refine CallD.still (fun R h => R19_Constant_spec _ _ R h) ?_; simp (disch := first | exact dsc | fail) only [go_sem, seval, hR, hL, J, hlt2, hk2]))
              (repeat refine .z rfl ?_); refine .ifF (by simp (disch := first | exact dsc | fail) only [go_sem, seval]) ?_
              refine .skip ?_
              (repeat refine .z rfl ?_); refine .text ?_; simp (disch := first | exact dsc | fail) only [go_sem, seval, J]
              first | (refine ihJ _ _ ?_ trivial ?_) | (refine .z rfl ?_; refine ihJ _ _ ?_ trivial ?_) | (refine .z rfl ?_; refine .z rfl ?_; refine ihJ _ _ ?_ trivial ?_) | (refine .z rfl ?_; refine .z rfl ?_; refine .z rfl ?_; refine ihJ _ _ ?_ trivial ?_)
              · simp (disch := first | exact dsc | fail) only [go_sem, seval, J, E] <;> (repeat' (first | rfl | refine And.intro ?_ ?_))
              · first | exact .mk _ rfl | (apply Later.mk; simp (disch := first | exact dsc | fail) only [go_sem, seval, app_push, J, E]; exact rfl) | (apply Later.mk; simp (disch := first | exact dsc | fail) only [go_sem, seval, app_push, app_app, List.append_assoc, J, E] <;> (try rfl))
    (repeat refine .z rfl ?_); refine .text ?_; simp (disch := first | exact dsc | fail) only [go_sem, seval]
    have hlast : decide ((k : Int) < (m.layers.length : Int) - 1) = decide (k + 1 < m.layers.length) := by
      by_cases e : k + 1 < m.layers.length
      · rw [decide_eq_true e]; simp; omega
      · rw [decide_eq_false e]; simp; omega
    (repeat refine .zs rfl ?_); first | refine .cutF0 [3, 4, 6, 7, 8, 9] [] (fun ihE3 => ?_) (fun env T E3 => ?_) | refine .cutF [3, 4, 6, 7, 8, 9] [] [] (fun ihE3 => ?_) (fun env T E3 => ?_)
    rotate_left 1
    simp (disch := first | exact dsc | fail) only [go_sem, seval, E2] at E3
    rotate_left 1
    · (repeat refine .z rfl ?_); first | refine .loopF0 [3, 4, 6, 7, 8, 9] (fun i => [(12, .p (i64 i))]) (fun i => True) (0) ((if k + 1 < m.layers.length then (nth S.layers k).length else 0)) (by omega) ?_ ?_ ?_ ?_ | refine .loopF [3, 4, 6, 7, 8, 9] (fun i => [(12, .p (i64 i))]) (fun _ => []) (fun i => True) (0) ((if k + 1 < m.layers.length then (nth S.layers k).length else 0)) (by omega) ?_ (by rfl) ?_ ?_ ?_
      · simp (disch := first | exact dsc | fail) only [go_sem, seval, E2] <;> (repeat' (first | rfl | refine And.intro ?_ ?_))
      · exact trivial
      intro env T J hQ; simp (disch := first | exact dsc | fail) only [go_sem, seval, E2] at J
      rotate_left 1
      intro i env T hi0 hi J hQ ihJ; simp (disch := first | exact dsc | fail) only [go_sem, seval, E2] at J
      rotate_left 1
      · by_cases hk1 : k + 1 < m.layers.length
        · rw [if_pos hk1] at J
          (repeat refine .z rfl ?_); refine .text ?_; simp (disch := first | exact dsc | fail) only [go_sem, seval, J]
          (repeat refine .z rfl ?_); refine .ifF (by simp (disch := first | exact dsc | fail) only [go_sem, seval]) ?_
          first | (refine ihE3 _ _ ?_ ?_) | (refine .z rfl ?_; refine ihE3 _ _ ?_ ?_) | (refine .z rfl ?_; refine .z rfl ?_; refine ihE3 _ _ ?_ ?_) | (refine .z rfl ?_; refine .z rfl ?_; refine .z rfl ?_; refine ihE3 _ _ ?_ ?_)
          · simp (disch := first | exact dsc | fail) only [go_sem, seval, J, E2] <;> (repeat' (first | rfl | refine And.intro ?_ ?_))
          · first | exact .mk _ rfl | (apply Later.mk; simp (disch := first | exact dsc | fail) only [go_sem, seval, app_push, J, E2]; exact rfl) | (apply Later.mk; simp (disch := first | exact dsc | fail) only [go_sem, seval, app_push, app_app, List.append_assoc, J, E2] <;> (try rfl))
        · rw [if_neg hk1] at J
          have h1 : decide ((0 : Int) < ((nth S.layers k).length : Int)) = true := by simp; omega
          have h2 : decide (k + 1 < m.layers.length) = false := by simp; omega
          (repeat refine .z rfl ?_); refine .text ?_; simp (disch := first | exact dsc | fail) only [go_sem, seval, J, h1, h2, hlast]
          (repeat refine .z rfl ?_); refine .ifF (by simp (disch := first | exact dsc | fail) only [go_sem, seval]) ?_
          first | (refine ihE3 _ _ ?_ ?_) | (refine .z rfl ?_; refine ihE3 _ _ ?_ ?_) | (refine .z rfl ?_; refine .z rfl ?_; refine ihE3 _ _ ?_ ?_) | (refine .z rfl ?_; refine .z rfl ?_; refine .z rfl ?_; refine ihE3 _ _ ?_ ?_)
          · simp (disch := first | exact dsc | fail) only [go_sem, seval, J, E2] <;> (repeat' (first | rfl | refine And.intro ?_ ?_))
          · first | exact .mk _ rfl | (apply Later.mk; simp (disch := first | exact dsc | fail) only [go_sem, seval, app_push, J, E2]; exact rfl) | (apply Later.mk; simp (disch := first | exact dsc | fail) only [go_sem, seval, app_push, app_app, List.append_assoc, J, E2] <;> (try rfl))
      · have hk1 : k + 1 < m.layers.length := by
          by_cases e : k + 1 < m.layers.length
          · exact e
          · rw [if_neg e] at hi; omega
        rw [if_pos hk1] at hi
        have h2 : decide (k + 1 < m.layers.length) = true := by simp; omega
        (repeat refine .z rfl ?_); refine .text ?_; simp (disch := first | exact dsc | fail) only [go_sem, seval, J, h2, hlast]
        (repeat refine .z rfl ?_); refine .ifT (by simp (disch := first | exact dsc | fail) only [go_sem, seval]) ?_
        (repeat refine .z rfl ?_); refine .text ?_; simp (disch := first | exact dsc | fail) only [go_sem, seval]
        (repeat refine .zs rfl ?_); first | refine .cutF0 [3, 4, 6, 7, 8, 9, 12] [] (fun ihJ2 => ?_) (fun env T J2 => ?_) | refine .cutF [3, 4, 6, 7, 8, 9, 12] [] [] (fun ihJ2 => ?_) (fun env T J2 => ?_)
        rotate_left 1
        simp (disch := first | exact dsc | fail) only [go_sem, seval, J] at J2
        rotate_left 1
        · (repeat refine .z rfl ?_); first | refine .loopF0 [3, 4, 6, 7, 8, 9, 12] (fun j => [(13, .p (i64 j))]) (fun j => True) (0) (i) (by omega) ?_ ?_ ?_ ?_ | refine .loopF [3, 4, 6, 7, 8, 9, 12] (fun j => [(13, .p (i64 j))]) (fun _ => []) (fun j => True) (0) (i) (by omega) ?_ (by rfl) ?_ ?_ ?_
          · simp (disch := first | exact dsc | fail) only [go_sem, seval, J] <;> (repeat' (first | rfl | refine And.intro ?_ ?_))
          · exact trivial
          intro env T K hQ; simp (disch := first | exact dsc | fail) only [go_sem, seval, J] at K
          rotate_left 1
          intro j env T hj0 hj K hQ ihK; simp (disch := first | exact dsc | fail) only [go_sem, seval, J] at K
          rotate_left 1
          · (repeat refine .z rfl ?_); refine .text ?_; simp (disch := first | exact dsc | fail) only [go_sem, seval, K]
            (repeat refine .z rfl ?_); refine .ifF (by simp (disch := first | exact dsc | fail) only [go_sem, seval]) ?_
            first | (refine ihJ2 _ _ ?_ ?_) | (refine .z rfl ?_; refine ihJ2 _ _ ?_ ?_) | (refine .z rfl ?_; refine .z rfl ?_; refine ihJ2 _ _ ?_ ?_) | (refine .z rfl ?_; refine .z rfl ?_; refine .z rfl ?_; refine ihJ2 _ _ ?_ ?_)
            · simp (disch := first | exact dsc | fail) only [go_sem, seval, K, J] <;> (repeat' (first | rfl | refine And.intro ?_ ?_))
            · first | exact .mk _ rfl | (apply Later.mk; simp (disch := first | exact dsc | fail) only [go_sem, seval, app_push, K, J]; exact rfl) | (apply Later.mk; simp (disch := first | exact dsc | fail) only [go_sem, seval, app_push, app_app, List.append_assoc, K, J] <;> (try rfl))
          · have hq := (gate_eq (vs.ok.okG (k := k) (i := i) (by omega) hi) (vs.ok.okG (k := k) (i := j) (by omega) (by omega))).1
            have hne : decide (nth (nth S.layers k) i = nth (nth S.layers k) j) = false := decide_eq_false (nS k hk1 i j hi hj)
            (repeat refine .z rfl ?_); refine .text ?_; simp (disch := first | exact dsc | fail) only [go_sem, seval, K]
            (repeat refine .z rfl ?_); refine .ifT (by simp (disch := first | exact dsc | fail) only [go_sem, seval]) ?_
            (repeat refine .z rfl ?_); refine .open [] follows (by kernel_rfl) ?_; simp (disch := first | exact dsc | fail) only [go_sem, seval, K, hq, hne]
            (repeat refine .z rfl ?_); refine .ifF (by simp (disch := first | exact dsc | fail) only [go_sem, seval]) ?_
            refine .skip ?_
            (repeat refine .z rfl ?_); refine .text ?_; simp (disch := first | exact dsc | fail) only [go_sem, seval, K]
            first | (refine ihK _ _ ?_ trivial ?_) | (refine .z rfl ?_; refine ihK _ _ ?_ trivial ?_) | (refine .z rfl ?_; refine .z rfl ?_; refine ihK _ _ ?_ trivial ?_) | (refine .z rfl ?_; refine .z rfl ?_; refine .z rfl ?_; refine ihK _ _ ?_ trivial ?_)
            · simp (disch := first | exact dsc | fail) only [go_sem, seval, K, J] <;> (repeat' (first | rfl | refine And.intro ?_ ?_))
            · first | exact .mk _ rfl | (apply Later.mk; simp (disch := first | exact dsc | fail) only [go_sem, seval, app_push, K, J]; exact rfl) | (apply Later.mk; simp (disch := first | exact dsc | fail) only [go_sem, seval, app_push, app_app, List.append_assoc, K, J] <;> (try rfl))
        (repeat refine .z rfl ?_); refine .text ?_; simp (disch := first | exact dsc | fail) only [go_sem, seval, J2]
        first | (refine ihJ _ _ ?_ trivial ?_) | (refine .z rfl ?_; refine ihJ _ _ ?_ trivial ?_) | (refine .z rfl ?_; refine .z rfl ?_; refine ihJ _ _ ?_ trivial ?_) | (refine .z rfl ?_; refine .z rfl ?_; refine .z rfl ?_; refine ihJ _ _ ?_ trivial ?_)
        · simp (disch := first | exact dsc | fail) only [go_sem, seval, J2, E2] <;> (repeat' (first | rfl | refine And.intro ?_ ?_))
        · first | exact .mk _ rfl | (apply Later.mk; simp (disch := first | exact dsc | fail) only [go_sem, seval, app_push, J2, E2]; exact rfl) | (apply Later.mk; simp (disch := first | exact dsc | fail) only [go_sem, seval, app_push, app_app, List.append_assoc, J2, E2] <;> (try rfl))
    (repeat refine .z rfl ?_); refine .text ?_; simp (disch := first | exact dsc | fail) only [go_sem, seval]
    (repeat refine .zs rfl ?_); first | refine .cutF0 [3, 4, 6, 7, 8, 9] [] (fun ihE4 => ?_) (fun env T E4 => ?_) | refine .cutF [3, 4, 6, 7, 8, 9] [] [] (fun ihE4 => ?_) (fun env T E4 => ?_)
    rotate_left 1
    simp (disch := first | exact dsc | fail) only [go_sem, seval, E3] at E4
    rotate_left 1
    · (repeat refine .z rfl ?_); first | refine .loopF0 [3, 4, 6, 7, 8, 9] (fun i => [(14, .p (i64 i))]) (fun i => True) (0) ((nth D.layers k).length) (by omega) ?_ ?_ ?_ ?_ | refine .loopF [3, 4, 6, 7, 8, 9] (fun i => [(14, .p (i64 i))]) (fun _ => []) (fun i => True) (0) ((nth D.layers k).length) (by omega) ?_ (by rfl) ?_ ?_ ?_
      · simp (disch := first | exact dsc | fail) only [go_sem, seval, E3] <;> (repeat' (first | rfl | refine And.intro ?_ ?_))
      · exact trivial
      intro env T J hQ; simp (disch := first | exact dsc | fail) only [go_sem, seval, E3] at J
      rotate_left 1
      intro i env T hi0 hi J hQ ihJ; simp (disch := first | exact dsc | fail) only [go_sem, seval, E3] at J
      rotate_left 1
      · (repeat refine .z rfl ?_); refine .text ?_; simp (disch := first | exact dsc | fail) only [go_sem, seval, J]
        (repeat refine .z rfl ?_); refine .ifF (by simp (disch := first | exact dsc | fail) only [go_sem, seval]) ?_
        first | (refine ihE4 _ _ ?_ ?_) | (refine .z rfl ?_; refine ihE4 _ _ ?_ ?_) | (refine .z rfl ?_; refine .z rfl ?_; refine ihE4 _ _ ?_ ?_) | (refine .z rfl ?_; refine .z rfl ?_; refine .z rfl ?_; refine ihE4 _ _ ?_ ?_)
        · simp (disch := first | exact dsc | fail) only [go_sem, seval, J, E3] <;> (repeat' (first | rfl | refine And.intro ?_ ?_))
        · first | exact .mk _ rfl | (apply Later.mk; simp (disch := first | exact dsc | fail) only [go_sem, seval, app_push, J, E3]; exact rfl) | (apply Later.mk; simp (disch := first | exact dsc | fail) only [go_sem, seval, app_push, app_app, List.append_assoc, J, E3] <;> (try rfl))
      · have hz := nZ k i hk hi
        obtain ⟨g, hg⟩ : ∃ g, nth (nth D.layers k) i = g := ⟨_, rfl⟩
        rw [hg] at hz
        (repeat refine .z rfl ?_); refine .text ?_; simp (disch := first | exact dsc | fail) only [go_sem, seval, J]
        (repeat refine .z rfl ?_); refine .ifT (by simp (disch := first | exact dsc | fail) only [go_sem, seval]) ?_
        have hka : ((k : Int) == (m.layers.length : Int) - 1) = decide (k + 1 = m.layers.length) := by
          by_cases e : k + 1 = m.layers.length
          · rw [decide_eq_true e]; simp; omega
          · rw [decide_eq_false e]; simp; omega
        have hkb : (((nth D.layers k).length : Int) == 1) = decide ((nth D.layers k).length = 1) := by
          by_cases e : (nth D.layers k).length = 1
          · rw [decide_eq_true e, e]; rfl
          · rw [decide_eq_false e]; simp; omega
        obtain ⟨b0, hb0⟩ : ∃ b0, (decide (k + 1 = m.layers.length) || decide ((nth D.layers k).length = 1)) = b0 := ⟨_, rfl⟩
        (repeat refine .z rfl ?_); refine .cutN [3, 4, 6, 7, 8, 9, 14] [(15, .ptr (H.n+5+T.length) 0), (16, .p (bo b0))] [] [.cells (gc g)] (fun ihJ3 => ?_) (fun env J3 => ?_)
        rotate_left 1
        simp (disch := first | exact dsc | fail) only [go_sem, seval, J] at J3
        rotate_left 1
        · by_cases e1 : k + 1 = m.layers.length
          · have e2 := decide_eq_true e1
            rw [e2] at hka hb0
            rw [Bool.true_or] at hb0
            subst hb0
            (repeat refine .z rfl ?_); refine .openF 23 24 25 [23, 24] follows (by kernel_rfl) (by kernel_rfl) ?_; simp (disch := first | exact dsc | fail) only [go_sem, seval, J, hg, hka, hkb]
            first | (refine ihJ3 _ _ ?_ ?_) | (refine .z rfl ?_; refine ihJ3 _ _ ?_ ?_) | (refine .z rfl ?_; refine .z rfl ?_; refine ihJ3 _ _ ?_ ?_) | (refine .z rfl ?_; refine .z rfl ?_; refine .z rfl ?_; refine ihJ3 _ _ ?_ ?_)
            · simp (disch := first | exact dsc | fail) only [go_sem, seval, J] <;> (repeat' (first | rfl | refine And.intro ?_ ?_))
            · first | rfl | (simp (disch := first | exact dsc | fail) only [go_sem, seval, J] <;> (try rfl))
          · have e2 := decide_eq_false e1
            rw [e2] at hka hb0
            rw [Bool.false_or] at hb0
            subst hb0
            (repeat refine .z rfl ?_); refine .openF 23 24 25 [23, 24] follows (by kernel_rfl) (by kernel_rfl) ?_; simp (disch := first | exact dsc | fail) only [go_sem, seval, J, hg, hka, hkb]
            first | (refine ihJ3 _ _ ?_ ?_) | (refine .z rfl ?_; refine ihJ3 _ _ ?_ ?_) | (refine .z rfl ?_; refine .z rfl ?_; refine ihJ3 _ _ ?_ ?_) | (refine .z rfl ?_; refine .z rfl ?_; refine .z rfl ?_; refine ihJ3 _ _ ?_ ?_)
            · simp (disch := first | exact dsc | fail) only [go_sem, seval, J] <;> (repeat' (first | rfl | refine And.intro ?_ ?_))
            · first | rfl | (simp (disch := first | exact dsc | fail) only [go_sem, seval, J] <;> (try rfl))
        have hnx : (nth D.layers (k + 1)).length ≤ 1000 := by
          by_cases e : k + 1 < m.layers.length
          · exact (vd.ok.row (k + 1) (by omega)).2
          · have : nth D.layers (k + 1) = [] := by simp [nth, show D.layers.length ≤ k + 1 by omega]; rfl
            rw [this]; simp
        obtain ⟨nd, hnd⟩ : ∃ nd : Nat → Bool, nd = fun j => b0 || (fst? (fun q => usesAt (nth (nth D.layers (k + 1)) q) (i : Int)) j).isSome := ⟨_, rfl⟩
        have hnd0 : nd 0 = b0 := by rw [hnd]; simp [fst?]
        have hnds : ∀ j, nd j = false → nd (j + 1) = usesAt (nth (nth D.layers (k + 1)) j) (i : Int) := fun j hj => by
          rw [hnd] at hj ⊢
          simp only [Bool.or_eq_false_iff] at hj
          simp only [hj.1, Bool.false_or, fst?]
          cases hf : fst? (fun q => usesAt (nth (nth D.layers (k + 1)) q) (i : Int)) j with
          | some q => rw [hf] at hj; simp at hj
          | none =>
            simp only
            by_cases hu : usesAt (nth (nth D.layers (k + 1)) j) (i : Int) = true
            · rw [if_pos hu, hu]; rfl
            · rw [if_neg hu]; simpa using hu
        have hndN : nd (if k + 1 < m.layers.length then (nth D.layers (k + 1)).length else 0) = true := by
          rw [hnd]
          by_cases hk1 : k + 1 < m.layers.length
          · rw [if_pos hk1]
            rcases nD k hk1 with h1 | h1
            · rw [decide_eq_true h1, Bool.or_true] at hb0
              rw [← hb0]; rfl
            · have := h1 i hi
              unfold usedB at this
              show (b0 || _) = true
              rw [this, Bool.or_true]
          · rw [if_neg hk1]
            have : k + 1 = m.layers.length := by omega
            rw [decide_eq_true this, Bool.true_or] at hb0
            rw [← hb0]; rfl
        (repeat refine .z rfl ?_); refine .text ?_; simp (disch := first | exact dsc | fail) only [go_sem, seval, J3]
        (repeat refine .zs rfl ?_); first | refine .cutF0 [3, 4, 6, 7, 8, 9, 14, 15] [(16, .p (bo true))] (fun ihJ4 => ?_) (fun env T J4 => ?_) | refine .cutF [3, 4, 6, 7, 8, 9, 14, 15] [(16, .p (bo true))] [] (fun ihJ4 => ?_) (fun env T J4 => ?_)
        rotate_left 1
        simp (disch := first | exact dsc | fail) only [go_sem, seval, J3] at J4
        rotate_left 1
        · (repeat refine .z rfl ?_); first | refine .loopF0 [3, 4, 6, 7, 8, 9, 14, 15] (fun j => [(16, .p (bo (nd j))), (17, .p (i64 j))]) (fun j => True) (0) ((if k + 1 < m.layers.length then (nth D.layers (k + 1)).length else 0)) (by omega) ?_ ?_ ?_ ?_ | refine .loopF [3, 4, 6, 7, 8, 9, 14, 15] (fun j => [(16, .p (bo (nd j))), (17, .p (i64 j))]) (fun _ => []) (fun j => True) (0) ((if k + 1 < m.layers.length then (nth D.layers (k + 1)).length else 0)) (by omega) ?_ (by rfl) ?_ ?_ ?_
          · simp (disch := first | exact dsc | fail) only [go_sem, seval, J3, hnd0] <;> (repeat' (first | rfl | refine And.intro ?_ ?_))
          · exact trivial
          intro env T K hQ; simp (disch := first | exact dsc | fail) only [go_sem, seval, J3, hnd0] at K
          rotate_left 1
          intro j env T hj0 hj K hQ ihK; simp (disch := first | exact dsc | fail) only [go_sem, seval, J3, hnd0] at K
          rotate_left 1
          · rw [hndN] at K
            (repeat refine .z rfl ?_); refine .text ?_; simp (disch := first | exact dsc | fail) only [go_sem, seval, K]
            (repeat refine .z rfl ?_); refine .ifF (by simp (disch := first | exact dsc | fail) only [go_sem, seval]) ?_
            first | (refine ihJ4 _ _ ?_ ?_) | (refine .z rfl ?_; refine ihJ4 _ _ ?_ ?_) | (refine .z rfl ?_; refine .z rfl ?_; refine ihJ4 _ _ ?_ ?_) | (refine .z rfl ?_; refine .z rfl ?_; refine .z rfl ?_; refine ihJ4 _ _ ?_ ?_)
            · simp (disch := first | exact dsc | fail) only [go_sem, seval, K, J3] <;> (repeat' (first | rfl | refine And.intro ?_ ?_))
            · first | exact .mk _ rfl | (apply Later.mk; simp (disch := first | exact dsc | fail) only [go_sem, seval, app_push, K, J3]; exact rfl) | (apply Later.mk; simp (disch := first | exact dsc | fail) only [go_sem, seval, app_push, app_app, List.append_assoc, K, J3] <;> (try rfl))
          · have hk1 : k + 1 < m.layers.length := by
              by_cases e : k + 1 < m.layers.length
              · exact e
              · rw [if_neg e] at hj; omega
            rw [if_pos hk1] at hj
            have hkk : ((k : Int) + 1).toNat = k + 1 := by omega
            cases hc : nd j with
            | true =>
              rw [hc] at K
              (repeat refine .z rfl ?_); refine .text ?_; simp (disch := first | exact dsc | fail) only [go_sem, seval, K]
              (repeat refine .z rfl ?_); refine .ifF (by simp (disch := first | exact dsc | fail) only [go_sem, seval]) ?_
              first | (refine ihJ4 _ _ ?_ ?_) | (refine .z rfl ?_; refine ihJ4 _ _ ?_ ?_) | (refine .z rfl ?_; refine .z rfl ?_; refine ihJ4 _ _ ?_ ?_) | (refine .z rfl ?_; refine .z rfl ?_; refine .z rfl ?_; refine ihJ4 _ _ ?_ ?_)
              · simp (disch := first | exact dsc | fail) only [go_sem, seval, K, J3] <;> (repeat' (first | rfl | refine And.intro ?_ ?_))
              · first | exact .mk _ rfl | (apply Later.mk; simp (disch := first | exact dsc | fail) only [go_sem, seval, app_push, K, J3]; exact rfl) | (apply Later.mk; simp (disch := first | exact dsc | fail) only [go_sem, seval, app_push, app_app, List.append_assoc, K, J3] <;> (try rfl))
            | false =>
              have hs := hnds j hc
              rw [hc] at K
              obtain ⟨g2, hg2⟩ : ∃ g, nth (nth D.layers (k + 1)) j = g := ⟨_, rfl⟩
              rw [hg2] at hs
              (repeat refine .z rfl ?_); refine .text ?_; simp (disch := first | exact dsc | fail) only [go_sem, seval, K, hkk]
              (repeat refine .z rfl ?_); refine .ifT (by simp (disch := first | exact dsc | fail) only [go_sem, seval]) ?_
              (repeat refine .z rfl ?_); refine .text ?_; simp (disch := first | exact dsc | fail) only [go_sem, seval, K, hkk, hg2]
              cases q1 : usesL g2 <;> cases q2 : (g2.l == (i : Int)) <;> cases q3 : usesR g2 <;> cases q4 : (g2.r == (i : Int))
              all_goals
                simp only [usesAt, q1, q2, q3, q4, Bool.and_true, Bool.and_false, Bool.or_true, Bool.or_false] at hs
                (repeat refine .z rfl ?_); refine .text ?_; simp (disch := first | exact dsc | fail) only [go_sem, seval, K, q2, q4]
                (repeat (first | refine CallK.of (fun R h => R19_UsesRight_spec _ _ R h) ?_; simp (disch := first | exact dsc | fail) only [go_sem, seval, q1, q2, q3, q4, K] | refine CallK.of (fun R h => R19_UsesLeft_spec _ _ R h) ?_; simp (disch := first | exact dsc | fail) only [go_sem, seval, q1, q2, q3, q4, K]))
                (repeat refine .z rfl ?_); refine .text ?_; simp (disch := first | exact dsc | fail) only [go_sem, seval, K]
                first | (refine ihK _ _ ?_ trivial ?_) | (refine .z rfl ?_; refine ihK _ _ ?_ trivial ?_) | (refine .z rfl ?_; refine .z rfl ?_; refine ihK _ _ ?_ trivial ?_) | (refine .z rfl ?_; refine .z rfl ?_; refine .z rfl ?_; refine ihK _ _ ?_ trivial ?_)
                · simp (disch := first | exact dsc | fail) only [go_sem, seval, K, J3, hs] <;> (repeat' (first | rfl | refine And.intro ?_ ?_))
                · first | exact .mk _ rfl | (apply Later.mk; simp (disch := first | exact dsc | fail) only [go_sem, seval, app_push, K, J3, hs]; exact rfl) | (apply Later.mk; simp (disch := first | exact dsc | fail) only [go_sem, seval, app_push, app_app, List.append_assoc, K, J3, hs] <;> (try rfl))
        have zl : usesL g = false → ((g.l : Int) != 0) = false := fun hu => by
          have : (zeroU g).l = 0 := by rw [zeroU_eq]; simp [hu]
          rw [hz] at this; rw [this]; rfl
        have zr : usesR g = false → ((g.r : Int) != 0) = false := fun hu => by
          have : (zeroU g).r = 0 := by rw [zeroU_eq]; simp [hu]
          rw [hz] at this; rw [this]; rfl
        cases q1 : usesL g <;> cases q3 : usesR g
        · have z1 := zl q1
          have z2 := zr q3
          (repeat refine .z rfl ?_); refine .text ?_; simp (disch := first | exact dsc | fail) only [go_sem, seval, J4, z1, z2]
          (repeat (first | refine CallK.of (fun R h => R19_UsesRight_spec _ _ R h) ?_; simp (disch := first | exact dsc | fail) only [go_sem, seval, q1, q3, z1, z2, J4] | refine CallK.of (fun R h => R19_UsesLeft_spec _ _ R h) ?_; simp (disch := first | exact dsc | fail) only [go_sem, seval, q1, q3, z1, z2, J4]))
          (repeat refine .z rfl ?_); refine .ifF (by simp (disch := first | exact dsc | fail) only [go_sem, seval]) ?_
          refine .skip ?_
          (repeat refine .z rfl ?_); refine .text ?_; simp (disch := first | exact dsc | fail) only [go_sem, seval, J4]
          first | (refine ihJ _ _ ?_ trivial ?_) | (refine .z rfl ?_; refine ihJ _ _ ?_ trivial ?_) | (refine .z rfl ?_; refine .z rfl ?_; refine ihJ _ _ ?_ trivial ?_) | (refine .z rfl ?_; refine .z rfl ?_; refine .z rfl ?_; refine ihJ _ _ ?_ trivial ?_)
          · simp (disch := first | exact dsc | fail) only [go_sem, seval, J4, E3] <;> (repeat' (first | rfl | refine And.intro ?_ ?_))
          · first | exact .mk _ rfl | (apply Later.mk; simp (disch := first | exact dsc | fail) only [go_sem, seval, app_push, J4, E3]; exact rfl) | (apply Later.mk; simp (disch := first | exact dsc | fail) only [go_sem, seval, app_push, app_app, List.append_assoc, J4, E3] <;> (try rfl))
        · have z1 := zl q1
          (repeat refine .z rfl ?_); refine .text ?_; simp (disch := first | exact dsc | fail) only [go_sem, seval, J4, z1]
          (repeat (first | refine CallK.of (fun R h => R19_UsesRight_spec _ _ R h) ?_; simp (disch := first | exact dsc | fail) only [go_sem, seval, q1, q3, z1, J4] | refine CallK.of (fun R h => R19_UsesLeft_spec _ _ R h) ?_; simp (disch := first | exact dsc | fail) only [go_sem, seval, q1, q3, z1, J4]))
          (repeat refine .z rfl ?_); refine .ifF (by simp (disch := first | exact dsc | fail) only [go_sem, seval]) ?_
          refine .skip ?_
          (repeat refine .z rfl ?_); refine .text ?_; simp (disch := first | exact dsc | fail) only [go_sem, seval, J4]
          first | (refine ihJ _ _ ?_ trivial ?_) | (refine .z rfl ?_; refine ihJ _ _ ?_ trivial ?_) | (refine .z rfl ?_; refine .z rfl ?_; refine ihJ _ _ ?_ trivial ?_) | (refine .z rfl ?_; refine .z rfl ?_; refine .z rfl ?_; refine ihJ _ _ ?_ trivial ?_)
          · simp (disch := first | exact dsc | fail) only [go_sem, seval, J4, E3] <;> (repeat' (first | rfl | refine And.intro ?_ ?_))
          · first | exact .mk _ rfl | (apply Later.mk; simp (disch := first | exact dsc | fail) only [go_sem, seval, app_push, J4, E3]; exact rfl) | (apply Later.mk; simp (disch := first | exact dsc | fail) only [go_sem, seval, app_push, app_app, List.append_assoc, J4, E3] <;> (try rfl))
        · have z2 := zr q3
          (repeat refine .z rfl ?_); refine .text ?_; simp (disch := first | exact dsc | fail) only [go_sem, seval, J4, z2]
          (repeat (first | refine CallK.of (fun R h => R19_UsesRight_spec _ _ R h) ?_; simp (disch := first | exact dsc | fail) only [go_sem, seval, q1, q3, z2, J4] | refine CallK.of (fun R h => R19_UsesLeft_spec _ _ R h) ?_; simp (disch := first | exact dsc | fail) only [go_sem, seval, q1, q3, z2, J4]))
          (repeat refine .z rfl ?_); refine .ifF (by simp (disch := first | exact dsc | fail) only [go_sem, seval]) ?_
          refine .skip ?_
          (repeat refine .z rfl ?_); refine .text ?_; simp (disch := first | exact dsc | fail) only [go_sem, seval, J4]
          first | (refine ihJ _ _ ?_ trivial ?_) | (refine .z rfl ?_; refine ihJ _ _ ?_ trivial ?_) | (refine .z rfl ?_; refine .z rfl ?_; refine ihJ _ _ ?_ trivial ?_) | (refine .z rfl ?_; refine .z rfl ?_; refine .z rfl ?_; refine ihJ _ _ ?_ trivial ?_)
          · simp (disch := first | exact dsc | fail) only [go_sem, seval, J4, E3] <;> (repeat' (first | rfl | refine And.intro ?_ ?_))
          · first | exact .mk _ rfl | (apply Later.mk; simp (disch := first | exact dsc | fail) only [go_sem, seval, app_push, J4, E3]; exact rfl) | (apply Later.mk; simp (disch := first | exact dsc | fail) only [go_sem, seval, app_push, app_app, List.append_assoc, J4, E3] <;> (try rfl))
        · (repeat refine .z rfl ?_); refine .text ?_; simp (disch := first | exact dsc | fail) only [go_sem, seval, J4]
          (repeat (first | refine CallK.of (fun R h => R19_UsesRight_spec _ _ R h) ?_; simp (disch := first | exact dsc | fail) only [go_sem, seval, q1, q3, J4] | refine CallK.of (fun R h => R19_UsesLeft_spec _ _ R h) ?_; simp (disch := first | exact dsc | fail) only [go_sem, seval, q1, q3, J4]))
          (repeat refine .z rfl ?_); refine .ifF (by simp (disch := first | exact dsc | fail) only [go_sem, seval]) ?_
          refine .skip ?_
          (repeat refine .z rfl ?_); refine .text ?_; simp (disch := first | exact dsc | fail) only [go_sem, seval, J4]
          first | (refine ihJ _ _ ?_ trivial ?_) | (refine .z rfl ?_; refine ihJ _ _ ?_ trivial ?_) | (refine .z rfl ?_; refine .z rfl ?_; refine ihJ _ _ ?_ trivial ?_) | (refine .z rfl ?_; refine .z rfl ?_; refine .z rfl ?_; refine ihJ _ _ ?_ trivial ?_)
          · simp (disch := first | exact dsc | fail) only [go_sem, seval, J4, E3] <;> (repeat' (first | rfl | refine And.intro ?_ ?_))
          · first | exact .mk _ rfl | (apply Later.mk; simp (disch := first | exact dsc | fail) only [go_sem, seval, app_push, J4, E3]; exact rfl) | (apply Later.mk; simp (disch := first | exact dsc | fail) only [go_sem, seval, app_push, app_app, List.append_assoc, J4, E3] <;> (try rfl))
    (repeat refine .z rfl ?_); refine .text ?_; simp (disch := first | exact dsc | fail) only [go_sem, seval, E4]
    first | (refine ihE _ _ ?_ trivial ?_) | (refine .z rfl ?_; refine ihE _ _ ?_ trivial ?_) | (refine .z rfl ?_; refine .z rfl ?_; refine ihE _ _ ?_ trivial ?_) | (refine .z rfl ?_; refine .z rfl ?_; refine .z rfl ?_; refine ihE _ _ ?_ trivial ?_)
    · simp (disch := first | exact dsc | fail) only [go_sem, seval, E4, E] <;> (repeat' (first | rfl | refine And.intro ?_ ?_))
    · first | exact .mk _ rfl | (apply Later.mk; simp (disch := first | exact dsc | fail) only [go_sem, seval, app_push, E4, E]; exact rfl) | (apply Later.mk; simp (disch := first | exact dsc | fail) only [go_sem, seval, app_push, app_app, List.append_assoc, E4, E] <;> (try rfl))
end walks
end Go.Proofs.Ytjnbifkojpfdgaa

/-
  What the laws' arguments read as.
-/
namespace Go.Proofs.Ytjnbifkojpfdgaa
open Go Go.AL Go.ChangeShapes Go.WideShapes Go.ChangeAt Go.RowKit

theorem own : ownKnob Try.prog.godebug = none := by kernel_rfl
theorem laidOut : laidOutB Try.prog = true := by kernel_rfl
def GG : Globs := fun _ => none
theorem rel_start {W : World} : Rel GG σ0 H0 W := rel0 fun g sz xs hg => by cases hg
/-- A world for the witness. -/
noncomputable def laidWorld (os : Os) : World := World.holding Try.prog os ⟨#[], #[], []⟩

section read
variable {k : Nat} {y : List PV}
theorem rd_gate (h : Reads Try.prog (k + 2) 46 y) : ∃ g : Gate, packB true y = gate g ∧ True := by
  obtain ⟨y1, z1, rfl, -, r1, y2, z2, rfl, -, r2, y3, z3, rfl, -, r3, y4, z4, rfl, -, r4, y5, z5, rfl, -, r5, y6, z6, rfl, -, r6, rfl⟩ := Reads.struct Try.underlying46 h
  obtain ⟨l, -, -, rfl⟩ := Reads.i64 Try.underlying3 r1
  obtain ⟨r, -, -, rfl⟩ := Reads.i64 Try.underlying3 r2
  obtain ⟨c, rfl⟩ := Reads.u64 Try.underlying44 r3
  obtain ⟨a, rfl⟩ := Reads.u64 Try.underlying44 r4
  obtain ⟨b, rfl⟩ := Reads.u64 Try.underlying44 r5
  obtain ⟨d, rfl⟩ := Reads.u64 Try.underlying44 r6
  exact ⟨⟨l, r, c, a, b, d⟩, rfl, trivial⟩
theorem rd_layers (h : Reads Try.prog (k + 4) 22 y) : ∃ ls : List (List Gate), ls.length ≤ 9223372036854775807 ∧ y = [.sl false 1 (pl (sle 6 gate) ls)] ∧ ∀ l ∈ ls, l.length ≤ 9223372036854775807 :=
  Reads.sl (sle 6 gate) (fun l => l.length ≤ 9223372036854775807) Try.underlying22 cells40 aggT40 h fun y hy => by
    obtain ⟨l, h1, rfl, -⟩ := Reads.sl gate (fun _ => True) Try.underlying40 cells46 aggT46 hy fun y hy => rd_gate hy
    exact ⟨l, rfl, h1⟩
theorem rd_cols (h : Reads Try.prog (k + 4) 25 y) : ∃ ls : List (List U), ls.length ≤ 9223372036854775807 ∧ y = [.sl false 1 (pl (sle 1 w64) ls)] ∧ ∀ l ∈ ls, l.length ≤ 9223372036854775807 :=
  Reads.sl (sle 1 w64) (fun l => l.length ≤ 9223372036854775807) Try.underlying25 cells42 aggT42 h fun y hy => by
    obtain ⟨l, h1, rfl, -⟩ := Reads.sl w64 (fun _ => True) Try.underlying42 cells44 aggT44 hy fun y hy => by
      obtain ⟨b, rfl⟩ := Reads.u64 Try.underlying44 hy
      exact ⟨b, rfl, trivial⟩
    exact ⟨l, rfl, h1⟩
theorem rd_circ (h : Reads Try.prog (k + 5) 24 y) : ∃ c : Circ, c.layers.length ≤ 9223372036854775807 ∧ (∀ l ∈ c.layers, l.length ≤ 9223372036854775807) ∧ y = [i64 c.inputs, .sl false 1 (pl (sle 6 gate) c.layers), i64 c.sums] := by
  obtain ⟨y1, z1, rfl, -, r1, y2, z2, rfl, -, r2, y3, z3, rfl, -, r3, rfl⟩ := Reads.struct Try.underlying24 h
  obtain ⟨n, -, -, rfl⟩ := Reads.i64 Try.underlying3 r1
  obtain ⟨ls, h1, rfl, h2⟩ := rd_layers r2
  obtain ⟨s, -, -, rfl⟩ := Reads.i64 Try.underlying3 r3
  exact ⟨⟨n, ls, s⟩, h1, h2, rfl⟩
end read

theorem nth_mem {α : Type} [Inhabited α] {l : List α} {i : Nat} (h : i < l.length) : nth l i ∈ l := by
  have : nth l i = l[i] := by simp [nth, h]
  rw [this]; exact List.getElem_mem h

section rel
variable {W : World} {v : Value} {H : Type} {enc : TypeId × Value → H} {d : DataW H} {ps : List MemPlace} {base : Nat}
theorem rel_inp (hval : Value.okWide Try.prog W .any base 27 v) (h : DataW.Trod enc Try.prog W 0 (fun _ => true) true 27 v d ps) :
    ∃ (c : Circ) (cols : List (List U)) (lg : BitVec 8), c.layers.length ≤ 9223372036854775807 ∧ (∀ i, i < c.layers.length → (nth c.layers i).length ≤ 9223372036854775807) ∧ cols.length ≤ 9223372036854775807 ∧ (∀ i, i < cols.length → (nth cols i).length ≤ 9223372036854775807) ∧ RelV σ0 H0 W (.p (inpV c cols lg)) v := by
  obtain ⟨xs, hx, e⟩ := rel_read 8 (by kernel_rfl) hval h
  obtain ⟨y1, z1, rfl, -, r1, y2, z2, rfl, -, r2, y3, z3, rfl, -, r3, rfl⟩ := Reads.struct (k := 7) Try.underlying27 hx
  obtain ⟨c, h1, h2, rfl⟩ := rd_circ r1
  obtain ⟨cols, h3, rfl, h4⟩ := rd_cols r2
  obtain ⟨lg, rfl⟩ := Reads.u8 Try.underlying5 r3
  rw [aggT27] at e
  exact ⟨c, cols, lg, h1, fun i hi => h2 _ (nth_mem hi), h3, fun i hi => h4 _ (nth_mem hi), e⟩
theorem rel_u8 (hval : Value.okWide Try.prog W .any base 5 v) (h : DataW.Trod enc Try.prog W 0 (fun _ => true) true 5 v d ps) : ∃ b : BitVec 8, RelV σ0 H0 W (.p (b8 b)) v := by
  obtain ⟨xs, hx, e⟩ := rel_read 1 (by kernel_rfl) hval h
  obtain ⟨b, rfl⟩ := Reads.u8 (k := 0) Try.underlying5 hx
  rw [aggT5] at e
  exact ⟨b, e⟩
theorem rel_u16 (hval : Value.okWide Try.prog W .any base 48 v) (h : DataW.Trod enc Try.prog W 0 (fun _ => true) true 48 v d ps) : ∃ b : BitVec 16, RelV σ0 H0 W (.p (w16 b)) v := by
  obtain ⟨xs, hx, e⟩ := rel_read 1 (by kernel_rfl) hval h
  obtain ⟨b, rfl⟩ := Reads.u16 (k := 0) Try.underlying48 hx
  rw [aggT48] at e
  exact ⟨b, e⟩
end rel
end Go.Proofs.Ytjnbifkojpfdgaa
