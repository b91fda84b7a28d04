/-
  Sharing twice is sharing once; the kept gates of a layer differ; doubled layers share to the same.
-/
import Derived.Test.YtjnbifkojpfdgaaPkS2
import Derived.Test.YtjnbifkojpfdgaaRows
set_option linter.unusedSimpArgs false
set_option linter.unusedVariables false
namespace Go.Proofs.Ytjnbifkojpfdgaa
open Go Go.AL

/-- Gates that differ pairwise. -/
def Dif (l : List Gate) : Prop := ∀ i j, i < l.length → j < i → nth l i ≠ nth l j

theorem findI_none {l : List Gate} {g : Gate} : findI l g = none ↔ ∀ i, i < l.length → nth l i ≠ g := by
  unfold findI
  rw [fst_none]
  exact ⟨fun h i hi e => by have := h i hi; simp [e] at this, fun h i hi => by simpa using h i hi⟩
theorem findI_some {l : List Gate} {g : Gate} {i : Nat} : findI l g = some i ↔ i < l.length ∧ nth l i = g ∧ ∀ j, j < i → nth l j ≠ g := by
  unfold findI
  rw [fst_some]
  simp only [decide_eq_true_eq, decide_eq_false_iff_not]
theorem Dif.snoc {l : List Gate} {g : Gate} (h : Dif l) (hg : findI l g = none) : Dif (l ++ [g]) := by
  intro i j hi hj
  simp only [List.length_append, List.length_cons, List.length_nil] at hi
  by_cases e : i < l.length
  · rw [nth_append_l e, nth_append_l (by omega)]; exact h i j e hj
  · rw [nth_append_r (by omega), show i - l.length = 0 by omega, nth_cons_zero, nth_append_l (by omega)]
    exact fun e => findI_none.1 hg j (by omega) e.symm

theorem shTo_dif {ns : List Int} {first : Bool} {l : List Gate} : ∀ i, Dif (shTo ns first false l i).1
  | 0 => fun i j h => absurd h (by simp [shTo])
  | i + 1 => by
    have ih := shTo_dif (ns := ns) (first := first) (l := l) i
    simp only [shTo]
    cases hf : findI (shTo ns first false l i).1 (shG ns first (nth l i)) with
    | none => exact ih.snoc hf
    | some j => exact ih

/-- Sharing a layer that needs none. -/
theorem shTo_fix {ns : List Int} {first last : Bool} {m : List Gate} (hm : last = true ∨ Dif m) (hg : ∀ j, j < m.length → shG ns first (nth m j) = nth m j) :
    ∀ i, i ≤ m.length → shTo ns first last m i = (m.take i, tab (fun j => (j : Int)) i)
  | 0, _ => rfl
  | i + 1, hi => by
    have ih := shTo_fix hm hg i (by omega)
    simp only [shTo]
    rw [ih, hg i (by omega)]
    have h1 : m.take i ++ [nth m i] = m.take (i + 1) := by
      rw [List.take_succ_eq_append_getElem (by omega)]
      simp [nth, show i < m.length by omega]
    have h2 : tab (fun j => (j : Int)) i ++ [((m.take i).length : Int)] = tab (fun j => (j : Int)) (i + 1) := by
      rw [tab_succ, List.length_take, Nat.min_eq_left (by omega)]
    simp only
    rw [h1, h2]
    cases hf : findI (m.take i) (nth m i) with
    | none => rfl
    | some j =>
      rcases hm with rfl | hm
      · rfl
      · exfalso
        obtain ⟨q1, q2, _⟩ := findI_some.1 hf
        rw [List.length_take] at q1
        have : nth (m.take i) j = nth m j := by simp [nth, List.getElem?_take, show j < i by omega]
        rw [this] at q2
        exact hm i j (by omega) (by omega) q2.symm

theorem shG_id {w : Nat} {g : Gate} {first : Bool} (h : first = true ∨ opG (w : Int) g) : shG (tab (fun j => (j : Int)) w) first g = g := by
  unfold shG
  split
  · rfl
  · rename_i hf
    rcases h with h | ⟨h1, h2, h3, h4⟩
    · exact absurd h hf
    · rw [nth_tab (by omega), nth_tab (by omega)]
      cases g
      simp only at h1 h3 ⊢
      rw [Int.toNat_of_nonneg h1, Int.toNat_of_nonneg h3]

theorem shN_shN {c : Circ} (hc : Ok c) : ∀ k, k < c.layers.length → shN (share c).layers k = ((shN c.layers k).1, tab (fun j => (j : Int)) (shN c.layers k).1.length)
  | k, hk => by
    have hl : (share c).layers = tab (fun k => (shN c.layers k).1) c.layers.length := rfl
    have hm : nth (share c).layers k = (shN c.layers k).1 := by rw [hl, nth_tab hk]
    rw [shN_eq, hm, show (share c).layers.length = c.layers.length by rw [hl, tab_len]]
    have hop := (shN_ok hc k hk).op
    rw [shTo_fix (m := (shN c.layers k).1) ?_ ?_ _ (Nat.le_refl _), List.take_length]
    · by_cases e : k + 1 = c.layers.length
      · exact .inl (by simpa using e)
      · refine .inr ?_
        rw [shN_eq, show (k + 1 == c.layers.length) = false by simpa using e]
        exact shTo_dif _
    · intro j hj
      by_cases h0 : k = 0
      · subst h0; rfl
      · have hP : shP (share c).layers k = tab (fun j => (j : Int)) (shN c.layers (k - 1)).1.length := by
          rw [shP, if_neg h0, shN_shN hc (k - 1) (by omega)]
        rw [hP]
        refine shG_id (.inr ?_)
        have := hop j hj
        rwa [shW, if_neg h0] at this

/-- Sharing twice is sharing once. -/
theorem share_share {c : Circ} (hc : Ok c) : share (share c) = share c := by
  have hl : (share c).layers.length = c.layers.length := tab_len
  show (⟨_, tab (fun k => (shN (share c).layers k).1) (share c).layers.length, _⟩ : Circ) = ⟨_, tab _ _, _⟩
  rw [hl]
  congr 1
  exact tab_congr fun k hk => by rw [shN_shN hc k hk]

theorem share_dif {c : Circ} {k : Nat} (hk : k + 1 < c.layers.length) : Dif (nth (share c).layers k) := by
  show Dif (nth (tab _ _) k)
  rw [nth_tab (by omega), shN_eq, show (k + 1 == c.layers.length) = false by simp; omega]
  exact shTo_dif _

/-! ### Doubled layers -/
theorem findI_append {l : List Gate} {g h : Gate} {i : Nat} (hf : findI l g = some i) : findI (l ++ [h]) g = some i := by
  obtain ⟨h1, h2, h3⟩ := findI_some.1 hf
  refine findI_some.2 ⟨by simp; omega, by rw [nth_append_l h1]; exact h2, fun j hj => by rw [nth_append_l (by omega)]; exact h3 j hj⟩
theorem findI_here {l : List Gate} {g : Gate} (hf : findI l g = none) : findI (l ++ [g]) g = some l.length := by
  refine findI_some.2 ⟨by simp, by rw [nth_append_r (Nat.le_refl _), Nat.sub_self, nth_cons_zero], fun j hj => by rw [nth_append_l hj]; exact findI_none.1 hf j hj⟩

/-- Every gate of the layer is found where its number says. -/
theorem shTo_found {ns : List Int} {first : Bool} {l : List Gate} : ∀ i j, j < i → ∃ x : Nat, findI (shTo ns first false l i).1 (shG ns first (nth l j)) = some x ∧ nth (shTo ns first false l i).2 j = (x : Int) ∧ (shTo ns first false l i).2.length = i
  | 0, j, hj => absurd hj (by omega)
  | i + 1, j, hj => by
    have hlen : (shTo ns first false l i).2.length = i := by
      cases i with
      | zero => rfl
      | succ i => exact (shTo_found (i + 1) i (by omega)).choose_spec.2.2
    simp only [shTo]
    cases hf : findI (shTo ns first false l i).1 (shG ns first (nth l i)) with
    | none =>
      simp only
      by_cases e : j = i
      · subst e
        exact ⟨_, findI_here hf, by rw [nth_append_r (by omega), hlen, Nat.sub_self, nth_cons_zero], by simp [hlen]⟩
      · obtain ⟨x, h1, h2, _⟩ := shTo_found (ns := ns) (first := first) (l := l) i j (by omega)
        exact ⟨x, findI_append h1, by rw [nth_append_l (by omega)]; exact h2, by simp [hlen]⟩
    | some q =>
      simp only [Bool.false_eq_true, if_false]
      by_cases e : j = i
      · subst e
        exact ⟨q, hf, by rw [nth_append_r (by omega), hlen, Nat.sub_self, nth_cons_zero], by simp [hlen]⟩
      · obtain ⟨x, h1, h2, _⟩ := shTo_found (ns := ns) (first := first) (l := l) i j (by omega)
        exact ⟨x, h1, by rw [nth_append_l (by omega)]; exact h2, by simp [hlen]⟩

theorem shTo_congr {ns ns' : List Int} {first last : Bool} {l l' : List Gate} : ∀ i, (∀ j, j < i → shG ns first (nth l j) = shG ns' first (nth l' j)) → shTo ns first last l i = shTo ns' first last l' i
  | 0, _ => rfl
  | i + 1, h => by
    have ih := shTo_congr (last := last) i fun j hj => h j (by omega)
    simp only [shTo]
    rw [ih, h i (by omega)]

theorem shTo_len {ns : List Int} {first last : Bool} {l : List Gate} : ∀ i, (shTo ns first last l i).2.length = i
  | 0 => rfl
  | i + 1 => by
    have := shTo_len (ns := ns) (first := first) (last := last) (l := l) i
    simp only [shTo]
    cases findI (shTo ns first last l i).1 (shG ns first (nth l i)) with
    | none => simp [this]
    | some j => simp only; split <;> simp [this]

theorem shTo_twice {ns : List Int} {first : Bool} {l : List Gate} : ∀ i, i ≤ l.length → shTo ns first false (l ++ l) (l.length + i) = ((shTo ns first false l l.length).1, (shTo ns first false l l.length).2 ++ (shTo ns first false l l.length).2.take i)
  | 0, _ => by
    rw [Nat.add_zero, List.take_zero, List.append_nil]
    exact shTo_congr _ fun j hj => by rw [nth_append_l hj]
  | i + 1, hi => by
    have ih := shTo_twice (ns := ns) (first := first) (l := l) i (by omega)
    obtain ⟨x, h1, h2, h3⟩ := shTo_found (ns := ns) (first := first) (l := l) l.length i (by omega)
    rw [← Nat.add_assoc, shTo, ih, nth_append_r (by omega), Nat.add_sub_cancel_left]
    simp only [h1, Bool.false_eq_true, if_false]
    congr 1
    rw [List.append_assoc]
    congr 1
    rw [List.take_succ_eq_append_getElem (by omega)]
    have : nth (shTo ns first false l l.length).2 i = (shTo ns first false l l.length).2[i]'(by omega) := by simp [nth, show i < (shTo ns first false l l.length).2.length by omega]
    rw [← this, h2]

/-- 'c' with layer k doubled and some operands of the next layer moved to the copies. -/
structure Doubled (c d : Circ) (k : Nat) : Prop where
  hk : k + 1 < c.layers.length
  inp : d.inputs = c.inputs
  sums : d.sums = c.sums
  len : d.layers.length = c.layers.length
  same : ∀ j, j < c.layers.length → j ≠ k → j ≠ k + 1 → nth d.layers j = nth c.layers j
  two : nth d.layers k = nth c.layers k ++ nth c.layers k
  nlen : (nth d.layers (k + 1)).length = (nth c.layers (k + 1)).length
  next : ∀ i, i < (nth c.layers (k + 1)).length → ∃ a b : Bool, nth (nth d.layers (k + 1)) i = { nth (nth c.layers (k + 1)) i with
      l := (nth (nth c.layers (k + 1)) i).l + (if a then ((nth c.layers k).length : Int) else 0), r := (nth (nth c.layers (k + 1)) i).r + (if b then ((nth c.layers k).length : Int) else 0) }

theorem nth_twice {l : List Int} {x : Int} {a : Bool} (h0 : 0 ≤ x) (h1 : x < l.length) : nth (l ++ l) (x + (if a then (l.length : Int) else 0)).toNat = nth l x.toNat := by
  cases a
  · rw [if_neg (by simp), Int.add_zero, nth_append_l (by omega)]
  · rw [if_pos rfl, nth_append_r (by omega)]
    congr 1; omega

theorem Doubled.shN {c d : Circ} {k : Nat} (hc : Ok c) (h : Doubled c d k) : ∀ j, j < c.layers.length → (j ≠ k → shN d.layers j = shN c.layers j) ∧ (j = k → shN d.layers j = ((shN c.layers k).1, (shN c.layers k).2 ++ (shN c.layers k).2))
  | j, hj => by
    have ih : j ≠ 0 → (j - 1 ≠ k → Proofs.Ytjnbifkojpfdgaa.shN d.layers (j - 1) = Proofs.Ytjnbifkojpfdgaa.shN c.layers (j - 1)) ∧ (j - 1 = k → Proofs.Ytjnbifkojpfdgaa.shN d.layers (j - 1) = ((Proofs.Ytjnbifkojpfdgaa.shN c.layers k).1, (Proofs.Ytjnbifkojpfdgaa.shN c.layers k).2 ++ (Proofs.Ytjnbifkojpfdgaa.shN c.layers k).2)) := fun h0 => Doubled.shN hc h (j - 1) (by omega)
    have hkk := h.hk
    have hP : j ≠ k + 1 → shP d.layers j = shP c.layers j := fun hne => by
      unfold shP
      split
      · rfl
      · rename_i h0; rw [(ih h0).1 (by omega)]
    refine ⟨fun hne => ?_, fun he => ?_⟩
    · rw [shN_eq, shN_eq, h.len]
      by_cases e : j = k + 1
      · subst e
        rw [h.nlen]
        refine shTo_congr _ fun i hi => ?_
        obtain ⟨a, b, hn⟩ := h.next i hi
        have hb : (k + 1 == 0) = false := by simp
        have hnum : (Proofs.Ytjnbifkojpfdgaa.shN c.layers k).2.length = (nth c.layers k).length := by rw [shN_eq]; exact shTo_len _
        have hPd : shP d.layers (k + 1) = (Proofs.Ytjnbifkojpfdgaa.shN c.layers k).2 ++ (Proofs.Ytjnbifkojpfdgaa.shN c.layers k).2 := by
          rw [shP, if_neg (by omega), (ih (by omega)).2 (by omega)]
        have hPc : shP c.layers (k + 1) = (Proofs.Ytjnbifkojpfdgaa.shN c.layers k).2 := by rw [shP, if_neg (by omega), Nat.add_sub_cancel]
        have ho := hc.op (k + 1) hkk i hi
        rw [wid, if_neg (by omega), Nat.add_sub_cancel] at ho
        obtain ⟨o1, o2, o3, o4⟩ := ho
        rw [hn, hPd, hPc, hb]
        rw [← hnum] at o2 o4 ⊢
        show (⟨nth _ _, nth _ _, _, _, _, _⟩ : Gate) = ⟨_, _, _, _, _, _⟩
        rw [nth_twice o1 o2, nth_twice o3 o4]
      · rw [h.same j hj hne e, hP e]
    · subst he
      rw [shN_eq, h.len, h.two, hP (by omega), List.length_append]
      have hl : (j + 1 == c.layers.length) = false := by simp; omega
      have := shTo_twice (ns := shP c.layers j) (first := j == 0) (l := nth c.layers j) (nth c.layers j).length (Nat.le_refl _)
      rw [hl, this, shN_eq, hl, List.take_of_length_le (by rw [shTo_len]; exact Nat.le_refl _)]

theorem Doubled.share {c d : Circ} {k : Nat} (hc : Ok c) (h : Doubled c d k) : share d = share c := by
  show (⟨_, tab _ _, _⟩ : Circ) = ⟨_, tab _ _, _⟩
  rw [h.inp, h.sums, h.len]
  congr 1
  refine tab_congr fun j hj => ?_
  by_cases e : j = k
  · rw [(h.shN hc j hj).2 e, e]
  · rw [(h.shN hc j hj).1 e]
end Go.Proofs.Ytjnbifkojpfdgaa

/-
  Removing unused gates twice is doing it once; what is left is used.
-/
namespace Go.Proofs.Ytjnbifkojpfdgaa
open Go Go.AL

theorem zeroU_eq (x : Gate) : zeroU x = ⟨if usesL x then x.l else 0, if usesR x then x.r else 0, x.c, x.a, x.b, x.d⟩ := by
  have h3 : n3 x = ⟨if usesL x then x.l else 0, x.r, x.c, x.a, x.b, x.d⟩ := by
    unfold n3
    cases usesL x <;> rfl
  have hr : usesR (n3 x) = usesR x := by rw [h3]; rfl
  unfold zeroU m4
  rw [hr, h3]
  cases usesR x <;> rfl
theorem usesL_zeroU (x : Gate) : usesL (zeroU x) = usesL x := by rw [zeroU_eq]; rfl
theorem usesR_zeroU (x : Gate) : usesR (zeroU x) = usesR x := by rw [zeroU_eq]; rfl
theorem zeroU_zeroU (x : Gate) : zeroU (zeroU x) = zeroU x := by
  rw [zeroU_eq (zeroU x), usesL_zeroU, usesR_zeroU, zeroU_eq]
  cases usesL x <;> cases usesR x <;> rfl

theorem sel_at {b : List Bool} {l : List Gate} : ∀ n i, i < n → nth b i = true → nth (selTo b l n) (cntB b i) = nth l i ∧ cntB b i < (selTo b l n).length
  | 0, i, h, _ => absurd h (by omega)
  | n + 1, i, h, hb => by
    by_cases e : i = n
    · subst e
      rw [selTo, if_pos hb, ← sel_len b l i, nth_append_r (Nat.le_refl _), Nat.sub_self, nth_cons_zero]
      exact ⟨rfl, by simp⟩
    · obtain ⟨h1, h2⟩ := sel_at (b := b) (l := l) n i (by omega) hb
      rw [selTo]
      split
      · exact ⟨by rw [nth_append_l h2]; exact h1, by simp; omega⟩
      · exact ⟨h1, h2⟩
theorem sel_inv {b : List Bool} {l : List Gate} : ∀ n q, q < (selTo b l n).length → ∃ i, i < n ∧ nth b i = true ∧ cntB b i = q
  | 0, q, h => absurd h (by simp [selTo])
  | n + 1, q, h => by
    rw [selTo] at h
    split at h
    · rename_i hb
      simp only [List.length_append, List.length_cons, List.length_nil] at h
      by_cases e : q < (selTo b l n).length
      · obtain ⟨i, h1, h2, h3⟩ := sel_inv n q e
        exact ⟨i, by omega, h2, h3⟩
      · exact ⟨n, by omega, hb, by rw [← sel_len b l]; omega⟩
    · obtain ⟨i, h1, h2, h3⟩ := sel_inv n q h
      exact ⟨i, by omega, h2, h3⟩
theorem sel_all {b : List Bool} {l : List Gate} : ∀ i, i ≤ l.length → (∀ j, j < i → nth b j = true) → selTo b l i = l.take i
  | 0, _, _ => rfl
  | i + 1, hi, h => by
    rw [selTo, if_pos (h i (by omega)), sel_all i (by omega) fun j hj => h j (by omega), List.take_succ_eq_append_getElem (by omega)]
    simp [nth, show i < l.length by omega]

/-- The raw gates that are kept of a layer, and those of the layer behind. -/
def kg (c : Circ) (k : Nat) : List Gate := selTo (kb c k) (nth c.layers k) (nth c.layers k).length
def nx (c : Circ) (k : Nat) : List Gate := if k + 1 = c.layers.length then [] else kg c (k + 1)
theorem kb_nx {c : Circ} {k : Nat} (hk : k < c.layers.length) : kb c k = needB c k (nx c k) := by
  have h := kb_eq (c := c) (d := c.layers.length - 1 - k) (by omega)
  rw [show c.layers.length - 1 - (c.layers.length - 1 - k) = k by omega] at h
  rw [h]
  congr 1
  unfold dkN nx
  by_cases e : k + 1 = c.layers.length
  · rw [if_pos (by omega), if_pos e]
  · rw [if_neg (by omega), if_neg e, dk_eq (by omega), show c.layers.length - 1 - (c.layers.length - 1 - k - 1) = k + 1 by omega]
    show selTo _ _ _ = selTo _ _ _
    congr 1
    have h2 := kb_eq (c := c) (d := c.layers.length - 1 - k - 1) (by omega)
    rw [show c.layers.length - 1 - (c.layers.length - 1 - k - 1) = k + 1 by omega] at h2
    rw [h2]
theorem dead_nth {c : Circ} {k : Nat} (hk : k < c.layers.length) : nth (deadR c).layers k = (kg c k).map (dg c k) := by
  show nth (tab _ _) k = _
  rw [nth_tab hk, dlTo_sel]; rfl
theorem dead_len {c : Circ} : (deadR c).layers.length = c.layers.length := tab_len

theorem dg_eq (c : Circ) (k : Nat) (g : Gate) : (dg c k g).c = g.c ∧ (dg c k g).a = g.a ∧ (dg c k g).b = g.b ∧ (dg c k g).d = g.d := by
  unfold dg
  rw [zeroU_eq]
  split <;> exact ⟨rfl, rfl, rfl, rfl⟩
theorem dg_konst (c : Circ) (k : Nat) (g : Gate) : konst (dg c k g) = konst g := by
  obtain ⟨h1, h2, h3, _⟩ := dg_eq c k g
  unfold konst; rw [h1, h2, h3]
theorem dg_usesAt {c : Circ} {k : Nat} {g : Gate} {i : Nat} (h : usesAt g (i : Int) = true) : usesAt (dg c (k + 1) g) ((cntB (kb c k) i : Nat) : Int) = true := by
  unfold dg
  rw [if_neg (by omega), Nat.add_sub_cancel, zeroU_eq]
  simp only [usesAt, Bool.or_eq_true, Bool.and_eq_true, beq_iff_eq] at h ⊢
  rcases h with ⟨h1, h2⟩ | ⟨h1, h2⟩
  · refine .inl ⟨h1, ?_⟩
    have : usesL (⟨((cntB (kb c k) g.l.toNat : Nat) : Int), ((cntB (kb c k) g.r.toNat : Nat) : Int), g.c, g.a, g.b, g.d⟩ : Gate) = true := h1
    rw [if_pos this, h2, Int.toNat_natCast]
  · refine .inr ⟨h1, ?_⟩
    have : usesR (⟨((cntB (kb c k) g.l.toNat : Nat) : Int), ((cntB (kb c k) g.r.toNat : Nat) : Int), g.c, g.a, g.b, g.d⟩ : Gate) = true := h1
    rw [if_pos this, h2, Int.toNat_natCast]

theorem usedB_iff {l : List Gate} {x : Int} : usedB l x = true ↔ ∃ q, q < l.length ∧ usesAt (nth l q) x = true := by
  constructor
  · intro h
    unfold usedB at h
    cases hf : fst? (fun k => usesAt (nth l k) x) l.length with
    | none => rw [hf] at h; cases h
    | some q => exact ⟨q, (fst_some.1 hf).1, (fst_some.1 hf).2.1⟩
  · rintro ⟨q, h1, h2⟩
    exact used_of h1 rfl h2

/-- A layer of what is left: a single gate, or all are wanted. -/
theorem dead_layer {c : Circ} (hc : Ok c) {k : Nat} (hk : k < c.layers.length) (ih : k + 1 < c.layers.length → kg (deadR c) (k + 1) = nth (deadR c).layers (k + 1)) :
    (nth (deadR c).layers k).length = 1 ∨ ∀ i, i < (nth (deadR c).layers k).length → want (deadR c) k (nx (deadR c) k) i = true := by
  rw [dead_nth hk, List.length_map]
  have hkb := kb_nx hk
  by_cases ha : anyW c k (nx c k) (nth c.layers k).length = true
  · right
    intro q hq
    obtain ⟨i, h1, h2, h3⟩ := sel_inv _ _ hq
    have hw : ∀ j, j < (nth c.layers k).length → nth (kb c k) j = want c k (nx c k) j := fun j hj => by
      rw [hkb, needB, if_pos ha, nth_tab hj]
    rw [hw i h1] at h2
    have hn : nth ((kg c k).map (dg c k)) q = dg c k (nth (nth c.layers k) i) := by
      rw [nth_map hq]
      have := (sel_at (b := kb c k) (l := nth c.layers k) (nth c.layers k).length i h1 (by rw [hw i h1]; exact h2)).1
      rw [h3] at this
      exact congrArg _ this
    unfold want at h2 ⊢
    rw [dead_len]
    by_cases hl : k + 1 = c.layers.length
    · rw [if_pos hl] at h2 ⊢
      rw [dead_nth hk, hn, dg_konst, (dg_eq c k _).2.2.2]
      simp only [Bool.or_eq_true] at h2 ⊢
      rcases h2 with (h2 | h2) | h2
      · refine .inl (.inl ?_)
        simp only [decide_eq_true_eq] at h2 ⊢
        have : cntB (kb c k) i = i := cnt_all fun j hj => by
          rw [hw j (by omega), want, if_pos hl]
          have : decide ((j : Int) < c.sums) = true := by simp; omega
          rw [this]; rfl
        show (q : Int) < c.sums
        omega
      · exact .inl (.inr h2)
      · exact .inr h2
    · rw [if_neg hl] at h2 ⊢
      rw [nx, if_neg (by rw [dead_len]; exact hl), ih (by omega), dead_nth (by omega)]
      rw [nx, if_neg hl] at h2
      obtain ⟨p, p1, p2⟩ := usedB_iff.1 h2
      refine usedB_iff.2 ⟨p, by simpa using p1, ?_⟩
      rw [nth_map p1, ← h3]
      exact dg_usesAt p2
  · left
    have hf := anyW_false.1 (by simpa using ha)
    obtain ⟨m, hm⟩ : ∃ m, (nth c.layers k).length = m + 1 := ⟨(nth c.layers k).length - 1, by have := (hc.row k hk).1; omega⟩
    unfold kg
    rw [hkb, needB, if_neg ha, hm, sel_first (nth_set_eq rfl (by rw [tab_len]; omega)) m fun j h1 h2 => by
      rw [nth_set_ne (by omega), nth_tab h2]; exact hf j (by omega)]
    rfl

theorem kb_dead {c : Circ} (hc : Ok c) {k : Nat} (hk : k < c.layers.length) (ih : k + 1 < c.layers.length → kg (deadR c) (k + 1) = nth (deadR c).layers (k + 1)) : ∀ i, i < (nth (deadR c).layers k).length → nth (kb (deadR c) k) i = true := by
  intro i hi
  rw [kb_nx (by rw [dead_len]; exact hk), needB]
  rcases dead_layer hc hk ih with h | h
  · have : i = 0 := by omega
    subst this
    split
    · rename_i ha
      rw [nth_tab hi]
      cases hw : want (deadR c) k (nx (deadR c) k) 0 with
      | true => rfl
      | false =>
        have : anyW (deadR c) k (nx (deadR c) k) (nth (deadR c).layers k).length = false := anyW_false.2 fun j hj => by
          have : j = 0 := by omega
          subst this; exact hw
        rw [this] at ha; cases ha
    · exact nth_set_eq rfl (by rw [tab_len]; omega)
  · have ha : anyW (deadR c) k (nx (deadR c) k) (nth (deadR c).layers k).length = true := by
      cases hh : anyW (deadR c) k (nx (deadR c) k) (nth (deadR c).layers k).length with
      | true => rfl
      | false => have := anyW_false.1 hh i hi; rw [h i hi] at this; cases this
    rw [if_pos ha, nth_tab hi]
    exact h i hi

theorem kg_dead {c : Circ} (hc : Ok c) : ∀ d k, d + k + 1 = c.layers.length → kg (deadR c) k = nth (deadR c).layers k
  | 0, k, h => by
    unfold kg
    rw [sel_all _ (Nat.le_refl _) fun j hj => kb_dead hc (by omega) (fun h' => by omega) j hj, List.take_length]
  | d + 1, k, h => by
    have ih := kg_dead hc d (k + 1) (by omega)
    unfold kg
    rw [sel_all _ (Nat.le_refl _) fun j hj => kb_dead hc (by omega) (fun _ => ih) j hj, List.take_length]

/-- What is left is one gate or is used by what is left of the layer behind. -/
theorem dead_used {c : Circ} (hc : Ok c) {k : Nat} (hk : k + 1 < c.layers.length) : (nth (deadR c).layers k).length = 1 ∨ ∀ i, i < (nth (deadR c).layers k).length → usedB (nth (deadR c).layers (k + 1)) (i : Int) = true := by
  have hg : kg (deadR c) (k + 1) = nth (deadR c).layers (k + 1) := kg_dead hc (c.layers.length - 2 - k) (k + 1) (by omega)
  rcases dead_layer hc (show k < c.layers.length by omega) (fun _ => hg) with h | h
  · exact .inl h
  · refine .inr fun i hi => ?_
    have := h i hi
    rw [want, if_neg (by rw [dead_len]; omega), nx, if_neg (by rw [dead_len]; omega), hg] at this
    exact this
/-- Operands that are not used are 0. -/
theorem dead_zero {c : Circ} {k i : Nat} (hk : k < c.layers.length) (hi : i < (nth (deadR c).layers k).length) : zeroU (nth (nth (deadR c).layers k) i) = nth (nth (deadR c).layers k) i := by
  rw [dead_nth hk, List.length_map] at hi
  rw [dead_nth hk, nth_map hi]
  exact zeroU_zeroU _

/-- Removing twice is removing once. -/
theorem dead_dead {c : Circ} (hc : Ok c) : deadR (deadR c) = deadR c := by
  have hok : Ok (deadR c) := by rw [← dead_eq hc]; exact hc.dead
  have key : ∀ k, k < c.layers.length → nth (deadR (deadR c)).layers k = nth (deadR c).layers k := fun k hk => by
    have hk' : k < (deadR c).layers.length := by rw [dead_len]; exact hk
    rw [dead_nth hk', kg_dead hc (c.layers.length - 1 - k) k (by omega)]
    refine nth_ext (by simp) fun i hi => ?_
    rw [List.length_map] at hi
    rw [nth_map hi]
    conv => rhs; rw [← dead_zero hk hi]
    obtain ⟨g, hgg⟩ : ∃ g, nth (nth (deadR c).layers k) i = g := ⟨_, rfl⟩
    have ho := hok.op k hk' i hi
    rw [hgg] at ho ⊢
    unfold dg
    split
    · rfl
    · rename_i h0
      rw [wid, if_neg h0] at ho
      obtain ⟨o1, o2, o3, o4⟩ := ho
      have hall : ∀ x : Nat, x ≤ (nth (deadR c).layers (k - 1)).length → cntB (kb (deadR c) (k - 1)) x = x := fun x hx => cnt_all fun j hj =>
        kb_dead hc (by omega) (fun h' => kg_dead hc (c.layers.length - 1 - (k - 1 + 1)) (k - 1 + 1) (by omega)) j (by omega)
      rw [hall _ (by omega), hall _ (by omega), Int.toNat_of_nonneg o1, Int.toNat_of_nonneg o3]
  have hl : (deadR (deadR c)).layers = (deadR c).layers := nth_ext (by rw [dead_len]) fun i hi => key i (by rw [dead_len, dead_len] at hi; exact hi)
  show (⟨(deadR c).inputs, (deadR (deadR c)).layers, (deadR c).sums⟩ : Circ) = deadR c
  rw [hl]
end Go.Proofs.Ytjnbifkojpfdgaa

/-
  Field elements as numbers modulo the prime; folding keeps the values of all gates.
-/
namespace Go.Proofs.Ytjnbifkojpfdgaa
open Go Go.AL

abbrev FP := Fin 18446744069414584321
def fe (x : U) : FP := Fin.ofNat _ x.toNat
theorem fe_val (x : U) : (fe x).val = x.toNat % 18446744069414584321 := rfl
theorem fe_inj {a b : U} (ha : valid a = true) (hb : valid b = true) (h : fe a = fe b) : a = b := by
  have h1 := valid_iff.1 ha
  have h2 := valid_iff.1 hb
  have h3 : (fe a).val = (fe b).val := by rw [h]
  rw [fe_val, fe_val, Nat.mod_eq_of_lt h1, Nat.mod_eq_of_lt h2] at h3
  exact BitVec.eq_of_toNat_eq h3
theorem fe_add {a b : U} (ha : valid a = true) (hb : valid b = true) : fe (rAdd a b) = fe a + fe b := by
  apply Fin.ext
  rw [Fin.val_add, fe_val, fe_val, fe_val, rAdd_nat ha hb, Nat.mod_mod, ← Nat.add_mod]
theorem fe_mul {a b : U} (ha : valid a = true) (hb : valid b = true) : fe (rMul a b) = fe a * fe b := by
  apply Fin.ext
  rw [Fin.val_mul, fe_val, fe_val, fe_val, rMul_nat ha hb, Nat.mod_mod, ← Nat.mul_mod]
theorem fe_zero : fe 0#64 = 0 := rfl

theorem rGate_valid {g : Gate} {l r : U} (hg : fvG g) (hl : valid l = true) (hr : valid r = true) : valid (rGate g l r) = true :=
  rAdd_valid (rAdd_valid (rAdd_valid (rMul_valid hg.1 (rMul_valid hl hr)) (rMul_valid hg.2.1 hl)) (rMul_valid hg.2.2.1 hr)) hg.2.2.2
theorem fe_rGate {g : Gate} {l r : U} (hg : fvG g) (hl : valid l = true) (hr : valid r = true) : fe (rGate g l r) = fe g.c * (fe l * fe r) + fe g.a * fe l + fe g.b * fe r + fe g.d := by
  have v1 := rMul_valid hl hr
  have v2 := rMul_valid hg.1 v1
  have v3 := rMul_valid hg.2.1 hl
  have v4 := rMul_valid hg.2.2.1 hr
  unfold rGate
  rw [fe_add (rAdd_valid (rAdd_valid v2 v3) v4) hg.2.2.2, fe_add (rAdd_valid v2 v3) v4, fe_add v2 v3, fe_mul hg.1 v1, fe_mul hl hr, fe_mul hg.2.1 hl, fe_mul hg.2.2.1 hr]

/-- A gate's value on the values of the layer before. -/
def val (inp : List U) (g : Gate) : U := rGate g (nth inp g.l.toNat) (nth inp g.r.toNat)
/-- All elements (and what is read beside them) are field elements. -/
def Fv (inp : List U) : Prop := ∀ i, valid (nth inp i) = true
theorem Fv.of {inp : List U} (h : ∀ i, i < inp.length → valid (nth inp i) = true) : Fv inp := fun i => by
  by_cases hi : i < inp.length
  · exact h i hi
  · have : nth inp i = default := by simp [nth, show inp.length ≤ i by omega]
    rw [this]; decide
theorem val_valid {inp : List U} {g : Gate} (hi : Fv inp) (hg : fvG g) : valid (val inp g) = true := rGate_valid hg (hi _) (hi _)
theorem fe_value {inp : List U} {g : Gate} (hi : Fv inp) (hg : fvG g) : fe (val inp g) = fe g.c * (fe (nth inp g.l.toNat) * fe (nth inp g.r.toNat)) + fe g.a * fe (nth inp g.l.toNat) + fe g.b * fe (nth inp g.r.toNat) + fe g.d := fe_rGate hg (hi _) (hi _)
theorem val_eq {inp : List U} {g h : Gate} (hi : Fv inp) (hg : fvG g) (hh : fvG h) (e : fe (val inp g) = fe (val inp h)) : val inp g = val inp h := fe_inj (val_valid hi hg) (val_valid hi hh) e
theorem usesL_false {g : Gate} (h : usesL g = false) : g.c = 0#64 ∧ g.a = 0#64 := by
  simp only [usesL, Bool.or_eq_false_iff, bne_eq_false_iff_eq] at h; exact h
theorem usesR_false {g : Gate} (h : usesR g = false) : g.c = 0#64 ∧ g.b = 0#64 := by
  simp only [usesR, Bool.or_eq_false_iff, bne_eq_false_iff_eq] at h; exact h
theorem konst_true {g : Gate} (h : konst g = true) : g.c = 0#64 ∧ g.a = 0#64 ∧ g.b = 0#64 := by
  simp only [konst, Bool.and_eq_true, beq_iff_eq] at h; exact ⟨h.1.1, h.1.2, h.2⟩
theorem val_konst {inp : List U} {g : Gate} (hi : Fv inp) (hg : fvG g) (h : konst g = true) : val inp g = g.d := by
  obtain ⟨h1, h2, h3⟩ := konst_true h
  refine fe_inj (val_valid hi hg) hg.2.2.2 ?_
  rw [fe_value hi hg, h1, h2, h3, fe_zero]
  grind

/-- The steps of folding keep a gate's value. -/
theorem val_fold {b : Bool} {p : List Gate} {inp : List U} {g : Gate} (hi : Fv inp) (hg : fvG g) (hp : ∀ j, j < p.length → fvG (nth p j))
    (hc : b = false → (konst (nth p g.l.toNat) = true → nth inp g.l.toNat = (nth p g.l.toNat).d) ∧ (konst (nth p g.r.toNat) = true → nth inp g.r.toNat = (nth p g.r.toNat).d)) : val inp (foldG b p g) = val inp g := by
  have key : ∀ y, fvG y → val inp (m5 (m4 (n3 (m2 (m1 y))))) = val inp y := by
    intro y hy
    have e1 : val inp (m1 y) = val inp y ∧ fvG (m1 y) := by
      obtain ⟨_, v⟩ := n1_eq hy
      refine ⟨val_eq hi v hy ?_, v⟩
      rw [fe_value hi v, fe_value hi hy]
      unfold m1
      split
      · rename_i h
        have h : y.l = y.r := by simpa using h
        simp only
        rw [fe_add hy.2.1 hy.2.2.1, fe_zero, h]
        grind
      · rfl
    have e2 : val inp (m2 (m1 y)) = val inp (m1 y) ∧ fvG (m2 (m1 y)) := by
      generalize m1 y = y at e1
      have v := fv_m2 e1.2
      refine ⟨val_eq hi v e1.2 ?_, v⟩
      rw [fe_value hi v, fe_value hi e1.2]
      unfold m2
      split
      · rename_i h
        simp only [Bool.and_eq_true, Bool.not_eq_true'] at h
        obtain ⟨h1, h2⟩ := usesL_false h.1
        simp only
        rw [h1, h2, fe_zero]
        grind
      · rfl
    have e3 : val inp (n3 (m2 (m1 y))) = val inp (m2 (m1 y)) ∧ fvG (n3 (m2 (m1 y))) := by
      generalize m2 (m1 y) = y at e2
      have v := fv_n3 e2.2
      refine ⟨val_eq hi v e2.2 ?_, v⟩
      rw [fe_value hi v, fe_value hi e2.2]
      unfold n3
      split
      · rename_i h
        obtain ⟨h1, h2⟩ := usesL_false (by simpa using h)
        simp only
        rw [h1, h2, fe_zero]
        grind
      · rfl
    have e4 : val inp (m4 (n3 (m2 (m1 y)))) = val inp (n3 (m2 (m1 y))) ∧ fvG (m4 (n3 (m2 (m1 y)))) := by
      generalize n3 (m2 (m1 y)) = y at e3
      have v := fv_m4 e3.2
      refine ⟨val_eq hi v e3.2 ?_, v⟩
      rw [fe_value hi v, fe_value hi e3.2]
      unfold m4
      split
      · rename_i h
        obtain ⟨h1, h2⟩ := usesR_false (by simpa using h)
        simp only
        rw [h1, h2, fe_zero]
        grind
      · rfl
    have e5 : val inp (m5 (m4 (n3 (m2 (m1 y))))) = val inp (m4 (n3 (m2 (m1 y)))) := by
      generalize m4 (n3 (m2 (m1 y))) = y at e4
      have v := fv_m5 e4.2
      refine val_eq hi v e4.2 ?_
      rw [fe_value hi v, fe_value hi e4.2]
      unfold m5
      split
      · simp only [swp]
        grind
      · rfl
    rw [e5, e4.1, e3.1, e2.1, e1.1]
  unfold foldG
  cases b with
  | true =>
    have h1 : fg1 true p g = g := by simp [fg1]
    have h2 : fg2 true p g = g := by simp [fg2]
    rw [h1, h2]
    exact key g hg
  | false =>
    obtain ⟨c1, c2⟩ := hc rfl
    obtain ⟨q1, v1⟩ := foldL_fg1 hg hp
    rw [q1] at v1
    obtain ⟨_, v2⟩ := foldL_fg2 v1 hp
    have hlr := fg1_lr false p g
    have e1 : val inp (fg1 false p g) = val inp g := by
      refine val_eq hi v1 hg ?_
      rw [fe_value hi v1, fe_value hi hg]
      unfold fg1
      split
      · rename_i h
        have h : konst (nth p g.l.toNat) = true := by simpa using h
        have hd := (fv_nth hp g.l.toNat).2.2.2
        simp only
        rw [fe_add hg.2.2.1 (rMul_valid hg.1 hd), fe_mul hg.1 hd, fe_add hg.2.2.2 (rMul_valid hg.2.1 hd), fe_mul hg.2.1 hd, c1 h, fe_zero]
        grind
      · rfl
    have e2 : val inp (fg2 false p (fg1 false p g)) = val inp (fg1 false p g) := by
      refine val_eq hi v2 v1 ?_
      rw [fe_value hi v2, fe_value hi v1]
      rw [← hlr.2] at c2
      generalize fg1 false p g = y at c2 v1
      unfold fg2
      split
      · rename_i h
        have h : konst (nth p y.r.toNat) = true := by simpa using h
        have hd := (fv_nth hp y.r.toNat).2.2.2
        simp only
        rw [fe_add v1.2.1 (rMul_valid v1.1 hd), fe_mul v1.1 hd, fe_add v1.2.2.2 (rMul_valid v1.2.2.1 hd), fe_mul v1.2.2.1 hd, c2 h, fe_zero]
        grind
      · rfl
    rw [key _ v2, e2, e1]

theorem layV_val (l : List Gate) (inp : List U) : layV l inp = tab (fun i => val inp (nth l i)) l.length := rfl
theorem rowV_fv {c : Circ} (h : Vd c) {inp : List U} (hi : Fv inp) : ∀ k, k ≤ c.layers.length → Fv (rowV c inp k)
  | 0, _ => hi
  | k + 1, hk => by
    refine Fv.of fun i hlt => ?_
    rw [rowV_len] at hlt
    show valid (nth (tab _ _) i) = true
    rw [nth_tab hlt]
    exact val_valid (rowV_fv h hi k (by omega)) (h.fv (by omega) hlt)

/-- The folded circuit has the same values of all gates. -/
theorem rowV_fold {c : Circ} (h : Vd c) {inp : List U} (hi : Fv inp) : ∀ k, k ≤ c.layers.length → rowV (fold foldG c) inp k = rowV c inp k
  | 0, _ => rfl
  | k + 1, hk => by
    have ih := rowV_fold h hi k (by omega)
    have hf := rowV_fv h hi k (by omega)
    have hn : nth (fold foldG c).layers k = fl foldG c.layers k := nth_tab (by omega)
    show layV (nth (fold foldG c).layers k) (rowV (fold foldG c) inp k) = layV (nth c.layers k) (rowV c inp k)
    rw [ih, hn, layV_val, layV_val, fl_len]
    refine tab_congr fun i hlt => ?_
    obtain ⟨_, hp⟩ := fold_nf h (show k < c.layers.length by omega) hlt
    rw [fl_nth hlt]
    refine val_fold hf (h.fv (by omega) hlt) hp fun hb => ?_
    have hk0 : k ≠ 0 := by intro e; subst e; cases hb
    have hpv : pv foldG c.layers k = fl foldG c.layers (k - 1) := by rw [pv, if_neg hk0]
    have ho := h.ok.op k (by omega) i hlt
    rw [wid, if_neg hk0] at ho
    obtain ⟨o1, o2, o3, o4⟩ := ho
    have hrow : rowV c inp k = layV (fl foldG c.layers (k - 1)) (rowV c inp (k - 1)) := by
      have e1 := rowV_fold h hi (k - 1) (by omega)
      have e2 : rowV (fold foldG c) inp (k - 1 + 1) = layV (nth (fold foldG c).layers (k - 1)) (rowV (fold foldG c) inp (k - 1)) := rfl
      rw [show k - 1 + 1 = k by omega, ih, e1, show nth (fold foldG c).layers (k - 1) = fl foldG c.layers (k - 1) from nth_tab (by omega)] at e2
      exact e2
    have hv := rowV_fv h hi (k - 1) (by omega)
    have key : ∀ x : Nat, x < (nth c.layers (k - 1)).length → konst (nth (pv foldG c.layers k) x) = true → nth (rowV c inp k) x = (nth (pv foldG c.layers k) x).d := fun x hx hkx => by
      rw [hrow, layV_val, fl_len, nth_tab hx, ← hpv]
      exact val_konst hv (hp x (by rw [hpv, fl_len]; exact hx)) hkx
    exact ⟨key _ (by omega), key _ (by omega)⟩
end Go.Proofs.Ytjnbifkojpfdgaa

/-
  Sharing and removing keep the outputs.
-/
namespace Go.Proofs.Ytjnbifkojpfdgaa
open Go Go.AL

/-! ### Sharing -/
theorem shTo_keep {ns : List Int} {first : Bool} {l : List Gate} : ∀ i, shTo ns first true l i = (tab (fun j => shG ns first (nth l j)) i, tab (fun j => (j : Int)) i)
  | 0 => rfl
  | i + 1 => by
    simp only [shTo]
    rw [shTo_keep i]
    simp only
    have : ((tab (fun j => shG ns first (nth l j)) i).length : Int) = (i : Int) := by rw [tab_len]
    rw [this, tab_succ, tab_succ]
    cases findI (tab (fun j => shG ns first (nth l j)) i) (shG ns first (nth l i)) <;> rfl

theorem shN_at {c : Circ} {k i : Nat} (hi : i < (nth c.layers k).length) : ∃ x : Nat, nth (shN c.layers k).2 i = (x : Int) ∧ x < (shN c.layers k).1.length ∧ nth (shN c.layers k).1 x = shG (shP c.layers k) (k == 0) (nth (nth c.layers k) i) := by
  rw [shN_eq]
  cases hb : (k + 1 == c.layers.length) with
  | false =>
    obtain ⟨x, h1, h2, _⟩ := shTo_found (ns := shP c.layers k) (first := k == 0) (l := nth c.layers k) (nth c.layers k).length i hi
    obtain ⟨q1, q2, _⟩ := findI_some.1 h1
    exact ⟨x, h2, q1, q2⟩
  | true =>
    rw [shTo_keep]
    exact ⟨i, nth_tab hi, by rw [tab_len]; exact hi, nth_tab hi⟩

theorem val_ops {inp inp' : List U} {g g' : Gate} (hc : g'.c = g.c) (ha : g'.a = g.a) (hb : g'.b = g.b) (hd : g'.d = g.d) (hl : nth inp' g'.l.toNat = nth inp g.l.toNat) (hr : nth inp' g'.r.toNat = nth inp g.r.toNat) : val inp' g' = val inp g := by
  unfold val rGate
  rw [hc, ha, hb, hd, hl, hr]

theorem rowV_share {c : Circ} (h : Vd c) {inp : List U} : ∀ k, k < c.layers.length → ∀ i, i < (nth c.layers k).length → nth (rowV (share c) inp (k + 1)) (nth (shN c.layers k).2 i).toNat = nth (rowV c inp (k + 1)) i
  | k, hk, i, hi => by
    obtain ⟨x, h1, h2, h3⟩ := shN_at (c := c) hi
    have hn : nth (share c).layers k = (shN c.layers k).1 := nth_tab hk
    have e1 : rowV (share c) inp (k + 1) = layV (shN c.layers k).1 (rowV (share c) inp k) := by rw [← hn]; rfl
    have e2 : rowV c inp (k + 1) = layV (nth c.layers k) (rowV c inp k) := rfl
    rw [h1, Int.toNat_natCast, e1, e2, layV_val, layV_val, nth_tab h2, nth_tab hi, h3]
    by_cases h0 : k = 0
    · subst h0; rfl
    · have hb : (k == 0) = false := by simpa using h0
      have hP : shP c.layers k = (shN c.layers (k - 1)).2 := by rw [shP, if_neg h0]
      have ho := h.ok.op k hk i hi
      rw [wid, if_neg h0] at ho
      obtain ⟨o1, o2, o3, o4⟩ := ho
      have i1 := rowV_share h (inp := inp) (k - 1) (by omega) (nth (nth c.layers k) i).l.toNat (by omega)
      have i2 := rowV_share h (inp := inp) (k - 1) (by omega) (nth (nth c.layers k) i).r.toNat (by omega)
      rw [show k - 1 + 1 = k by omega] at i1 i2
      rw [hb, hP]
      exact val_ops rfl rfl rfl rfl i1 i2

/-- The shared circuit has the same outputs. -/
theorem outV_share {c : Circ} (h : Vd c) {inp : List U} : rowV (share c) inp c.layers.length = rowV c inp c.layers.length := by
  have hl := h.ok.len.1
  obtain ⟨n, hn⟩ : ∃ n, c.layers.length = n + 1 := ⟨c.layers.length - 1, by omega⟩
  have hlast : (shN c.layers n) = (tab (fun j => shG (shP c.layers n) (n == 0) (nth (nth c.layers n) j)) (nth c.layers n).length, tab (fun j => (j : Int)) (nth c.layers n).length) := by
    rw [shN_eq, show (n + 1 == c.layers.length) = true by simp [hn], shTo_keep]
  rw [hn]
  refine nth_ext ?_ fun i hi => ?_
  · rw [rowV_len, rowV_len]
    have : nth (share c).layers n = (shN c.layers n).1 := nth_tab (by omega)
    rw [this, hlast, tab_len]
  · rw [rowV_len] at hi
    have hi' : i < (nth c.layers n).length := by
      have : nth (share c).layers n = (shN c.layers n).1 := nth_tab (by omega)
      rw [this, hlast, tab_len] at hi; exact hi
    have := rowV_share h (inp := inp) n (by omega) i hi'
    rw [hlast] at this
    simp only at this
    rw [nth_tab hi', Int.toNat_natCast] at this
    exact this

/-! ### Removing -/
theorem val_zeroU {inp : List U} {y : Gate} (hi : Fv inp) (hy : fvG y) : val inp (zeroU y) = val inp y := by
  have v := fv_zeroU hy
  refine val_eq hi v hy ?_
  rw [fe_value hi v, fe_value hi hy, zeroU_eq]
  simp only
  cases hl : usesL y <;> cases hr : usesR y
  · obtain ⟨h1, h2⟩ := usesL_false hl
    obtain ⟨_, h3⟩ := usesR_false hr
    rw [h1, h2, h3, fe_zero]; grind
  · obtain ⟨h1, h2⟩ := usesL_false hl
    rw [h1, h2, fe_zero]; grind
  · obtain ⟨h1, h2⟩ := usesR_false hr
    rw [h1, h2, fe_zero]; grind
  · rfl

/-- A gate whose used operands have the same values has the same value. -/
theorem val_move {inp inp' : List U} {g g' : Gate} (hi : Fv inp) (hi' : Fv inp') (hg : fvG g) (hc : g'.c = g.c) (ha : g'.a = g.a) (hb : g'.b = g.b) (hd : g'.d = g.d)
    (hl : usesL g = true → nth inp' g'.l.toNat = nth inp g.l.toNat) (hr : usesR g = true → nth inp' g'.r.toNat = nth inp g.r.toNat) : val inp' g' = val inp g := by
  have hg' : fvG g' := by unfold fvG; rw [hc, ha, hb, hd]; exact hg
  refine fe_inj (val_valid hi' hg') (val_valid hi hg) ?_
  rw [fe_value hi' hg', fe_value hi hg, hc, ha, hb, hd]
  cases ul : usesL g <;> cases ur : usesR g
  · obtain ⟨h1, h2⟩ := usesL_false ul
    obtain ⟨_, h3⟩ := usesR_false ur
    rw [h1, h2, h3, fe_zero]; grind
  · obtain ⟨h1, h2⟩ := usesL_false ul
    rw [h1, h2, fe_zero, hr ur]; grind
  · obtain ⟨h1, h2⟩ := usesR_false ur
    rw [h1, h2, fe_zero, hl ul]; grind
  · rw [hl ul, hr ur]

theorem kb_true {c : Circ} {k i : Nat} (hk : k < c.layers.length) (hi : i < (nth c.layers k).length) (hw : want c k (nx c k) i = true) : nth (kb c k) i = true := by
  have ha : anyW c k (nx c k) (nth c.layers k).length = true := by
    cases hh : anyW c k (nx c k) (nth c.layers k).length with
    | true => rfl
    | false => have := anyW_false.1 hh i hi; rw [hw] at this; cases this
  rw [kb_nx hk, needB, if_pos ha, nth_tab hi]
  exact hw

theorem rowV_dead {c : Circ} (h : Vd c) {inp : List U} (hi : Fv inp) : ∀ k, k < c.layers.length → ∀ i, i < (nth c.layers k).length → nth (kb c k) i = true →
    nth (rowV (deadR c) inp (k + 1)) (cntB (kb c k) i) = nth (rowV c inp (k + 1)) i ∧ cntB (kb c k) i < (rowV (deadR c) inp (k + 1)).length
  | k, hk, i, hlt, hb => by
    have vd : Vd (deadR c) := by rw [← dead_eq h.ok]; exact h.dead
    obtain ⟨s1, s2⟩ := sel_at (b := kb c k) (l := nth c.layers k) (nth c.layers k).length i hlt hb
    have hD := dead_nth hk
    have e1 : rowV (deadR c) inp (k + 1) = layV ((kg c k).map (dg c k)) (rowV (deadR c) inp k) := by rw [← hD]; rfl
    have e2 : rowV c inp (k + 1) = layV (nth c.layers k) (rowV c inp k) := rfl
    have hlen : cntB (kb c k) i < ((kg c k).map (dg c k)).length := by rw [List.length_map]; exact s2
    refine ⟨?_, by rw [e1, layV_len]; exact hlen⟩
    have hg := h.fv hk hlt
    rw [e1, e2, layV_val, layV_val, nth_tab hlen, nth_tab hlt, nth_map (show cntB (kb c k) i < (kg c k).length from s2)]
    have s1' : nth (kg c k) (cntB (kb c k) i) = nth (nth c.layers k) i := s1
    rw [s1']
    have f1 : Fv (rowV (deadR c) inp k) := rowV_fv vd hi k (by rw [dead_len]; omega)
    have f2 := rowV_fv h hi k (by omega)
    obtain ⟨g, hgg⟩ : ∃ g, nth (nth c.layers k) i = g := ⟨_, rfl⟩
    rw [hgg] at hg s1' ⊢
    unfold dg
    by_cases h0 : k = 0
    · subst h0
      rw [if_pos rfl, val_zeroU f1 hg]
      rfl
    · rw [if_neg h0]
      have ho := h.ok.op k hk i hlt
      rw [wid, if_neg h0, hgg] at ho
      obtain ⟨o1, o2, o3, o4⟩ := ho
      have hused : ∀ x : Nat, x < (nth c.layers (k - 1)).length → usesAt g (x : Int) = true → nth (rowV (deadR c) inp k) (cntB (kb c (k - 1)) x) = nth (rowV c inp k) x := fun x hx hu => by
        have hw : want c (k - 1) (nx c (k - 1)) x = true := by
          rw [want, if_neg (by omega), nx, if_neg (by omega), show k - 1 + 1 = k by omega]
          exact used_of (l := kg c k) s2 s1' hu
        have := (rowV_dead h hi (k - 1) (by omega) x hx (kb_true (by omega) hx hw)).1
        rwa [show k - 1 + 1 = k by omega] at this
      obtain ⟨y, hy⟩ : ∃ y : Gate, (⟨((cntB (kb c (k - 1)) g.l.toNat : Nat) : Int), ((cntB (kb c (k - 1)) g.r.toNat : Nat) : Int), g.c, g.a, g.b, g.d⟩ : Gate) = y := ⟨_, rfl⟩
      have yl : y.l = ((cntB (kb c (k - 1)) g.l.toNat : Nat) : Int) := by rw [← hy]
      have yr : y.r = ((cntB (kb c (k - 1)) g.r.toNat : Nat) : Int) := by rw [← hy]
      have yc : y.c = g.c := by rw [← hy]
      have ya : y.a = g.a := by rw [← hy]
      have yb : y.b = g.b := by rw [← hy]
      have yd : y.d = g.d := by rw [← hy]
      have hfy : fvG y := by unfold fvG; rw [yc, ya, yb, yd]; exact hg
      rw [hy, val_zeroU f1 hfy]
      refine val_move f2 f1 hg yc ya yb yd (fun hu => ?_) fun hu => ?_
      · rw [yl, Int.toNat_natCast]
        exact hused _ (by omega) (by rw [Int.toNat_of_nonneg o1]; simp [usesAt, hu])
      · rw [yr, Int.toNat_natCast]
        exact hused _ (by omega) (by rw [Int.toNat_of_nonneg o3]; simp [usesAt, hu])

theorem colsAt_fv {cols : List (List U)} (h : ∀ i j, i < cols.length → j < (nth cols i).length → valid (nth (nth cols i) j) = true) {r N : Nat} (hl : ∀ i, i < cols.length → (nth cols i).length = N) (hr : r < N) : Fv (colsAt cols r) :=
  Fv.of fun i hi => by
    rw [colsAt_len] at hi
    unfold colsAt
    rw [nth_tab hi]
    exact h i r hi (by rw [hl i hi]; exact hr)

/-- The outputs of the circuit without unused gates. -/
theorem outV_dead {c : Circ} (h : Vd c) {inp : List U} (hi : Fv inp) :
    (∀ i, i < c.sums.toNat → nth (rowV (deadR c) inp c.layers.length) i = nth (rowV c inp c.layers.length) i) ∧
    nzB (rowV (deadR c) inp c.layers.length) c.sums.toNat = nzB (rowV c inp c.layers.length) c.sums.toNat := by
  have hl := h.ok.len.1
  have hsm := h.sm
  have hs0 := h.ok.sums.1
  obtain ⟨n, hn⟩ : ∃ n, c.layers.length = n + 1 := ⟨c.layers.length - 1, by omega⟩
  have hnl : n < c.layers.length := by omega
  rw [hn, Nat.add_sub_cancel] at hsm
  have hsum : ∀ j, j < c.sums.toNat → want c n (nx c n) j = true := fun j hj => by
    rw [want, if_pos hn.symm]
    have : decide ((j : Int) < c.sums) = true := by simp; omega
    rw [this]; rfl
  have hkb : ∀ j, j < c.sums.toNat → nth (kb c n) j = true := fun j hj => kb_true hnl (by omega) (hsum j hj)
  have hcnt : ∀ j, j ≤ c.sums.toNat → cntB (kb c n) j = j := fun j hj => cnt_all fun q hq => hkb q (by omega)
  have hmono : ∀ i, c.sums.toNat ≤ i → c.sums.toNat ≤ cntB (kb c n) i := fun i hi => by
    have h1 := sel_mono (b := kb c n) (l := nth c.layers n) hi
    rw [sel_len, sel_len, hcnt _ (Nat.le_refl _)] at h1
    exact h1
  rw [hn]
  refine ⟨fun i hlt => ?_, ?_⟩
  · have := (rowV_dead h hi n hnl i (by omega) (hkb i hlt)).1
    rwa [hcnt i (by omega)] at this
  · rw [Bool.eq_iff_iff]
    constructor
    · intro hz
      unfold nzB at hz
      cases hf : fst? (fun i => decide (c.sums.toNat ≤ i) && nth (rowV (deadR c) inp (n + 1)) i != 0#64) (rowV (deadR c) inp (n + 1)).length with
      | none => rw [hf] at hz; cases hz
      | some q =>
        obtain ⟨h1, h2, _⟩ := fst_some.1 hf
        simp only [Bool.and_eq_true, decide_eq_true_eq, bne_iff_ne] at h2
        rw [rowV_len, dead_nth hnl, List.length_map] at h1
        obtain ⟨i, p1, p2, p3⟩ := sel_inv _ _ h1
        have hv := (rowV_dead h hi n hnl i p1 p2).1
        have hle := cntB_le (kb c n) i
        refine nzB_true (i := i) (by omega) (by rw [rowV_len]; exact p1) ?_
        rw [← hv, p3]
        exact h2.2
    · intro hz
      unfold nzB at hz
      cases hf : fst? (fun i => decide (c.sums.toNat ≤ i) && nth (rowV c inp (n + 1)) i != 0#64) (rowV c inp (n + 1)).length with
      | none => rw [hf] at hz; cases hz
      | some i =>
        obtain ⟨h1, h2, _⟩ := fst_some.1 hf
        simp only [Bool.and_eq_true, decide_eq_true_eq, bne_iff_ne] at h2
        rw [rowV_len] at h1
        have hw : want c n (nx c n) i = true := by
          rw [want, if_pos hn.symm]
          cases hk : konst (nth (nth c.layers n) i) with
          | false => simp
          | true =>
            by_cases hd : (nth (nth c.layers n) i).d = 0#64
            · exfalso
              apply h2.2
              show nth (layV _ _) i = _
              rw [layV_val, nth_tab h1, val_konst (rowV_fv h hi n (by omega)) (h.fv hnl h1) hk, hd]
            · simp [hd]
        obtain ⟨v1, v2⟩ := rowV_dead h hi n hnl i h1 (kb_true hnl h1 hw)
        refine nzB_true (i := cntB (kb c n) i) (hmono i h2.1) v2 ?_
        rw [v1]; exact h2.2

theorem sums_of {c d : Circ} {cols : List (List U)} {N : Nat} (hs : d.sums = c.sums) (h : ∀ r, r < N → ∀ i, i < c.sums.toNat → nth (outV d cols r) i = nth (outV c cols r) i) : sumsV d cols N = sumsV c cols N := by
  have key : ∀ r, r ≤ N → sumsV d cols r = sumsV c cols r := by
    intro r
    induction r with
    | zero => intro _; simp only [sumsV, hs]
    | succ r ih =>
      intro hr
      simp only [sumsV, hs, ih (by omega)]
      exact tab_congr fun i hi => by rw [h r (by omega) i hi]
  exact key N (Nat.le_refl _)
theorem zeros_of {c d : Circ} {cols : List (List U)} {N : Nat} (h : ∀ r, r < N → nzB (outV d cols r) d.sums.toNat = nzB (outV c cols r) c.sums.toNat) : zerosO d cols N = zerosO c cols N := by
  unfold zerosO
  have key : ∀ (p q : Nat → Bool) n, (∀ i, i < n → p i = q i) → fst? p n = fst? q n := by
    intro p q n
    induction n with
    | zero => intro _; rfl
    | succ n ih => intro hh; simp only [fst?]; rw [ih fun i hi => hh i (by omega), hh n (by omega)]
  exact key _ _ N h
end Go.Proofs.Ytjnbifkojpfdgaa

/-
  The walks of the equivalence of circuits and of OptimizeDeadPreserves.
-/
namespace Go.Proofs.Ytjnbifkojpfdgaa
open Go Go.AL

theorem mdCols_fits (c : Circ) (cols : List (List U)) (lg : BitVec 8) : Fits (made c) (columns cols (mdI c).toNat (2 ^ (lg.toNat % 3))) (2 ^ (lg.toNat % 3)) := by
  have hi := mdW_pos (c := c) (i := 0)
  have hi' : mdW c 0 = mdI c := rfl
  refine ⟨?_, fun i hlt => ?_⟩
  · show ((tab _ _).length : Int) = mdI c
    rw [tab_len]; omega
  · rw [columns, tab_len] at hlt
    rw [columns, nth_tab hlt, clR, clTo_len]
theorem mdCols_fv (c : Circ) (cols : List (List U)) (N : Nat) : ∀ i j, i < (columns cols (mdI c).toNat N).length → j < (nth (columns cols (mdI c).toNat N) i).length → valid (nth (nth (columns cols (mdI c).toNat N) i) j) = true := fun i j hi hj => by
  rw [columns, tab_len] at hi
  rw [columns, nth_tab hi, clR, clTo_len] at hj
  rw [columns, nth_tab hi, clR, clTo, nth_tab hj]
  split
  · exact rRed_valid
  · decide
theorem Fits.of {c d : Circ} {cols : List (List U)} {N : Nat} (h : Fits c cols N) (hd : d.inputs = c.inputs) : Fits d cols N := ⟨by rw [hd]; exact h.n, h.len⟩

section walks
variable {G : Globs}

set_option maxHeartbeats 4000000 in
theorem W19_equivalent_spec (c d : Circ) (hc : Vd c) (hd : Vd d) (cols : List (List U)) (j : Nat) (hj : j ≤ 16) (hf : Fits c cols (2 ^ j)) (hi : d.inputs = c.inputs) (hs : d.sums = c.sums) (hl : d.layers.length = c.layers.length)
    (e1 : sumsV d cols (2 ^ j) = sumsV c cols (2 ^ j)) (e2 : zerosO d cols (2 ^ j) = zerosO c cols (2 ^ j)) (H : Hp) (R : AV → Hp → Prop) (h : R (.p (bo true)) H) :
    ACall Try.prog G 25 [.p (circ c), .p (circ d), .p (.sl false 1 (pl (sle 1 w64) cols))] H R := by
  refine ACall.of_run (raw := []) Try.func25 rfl Try.ntmps25 (by simp) fun hbel => ?_
  have hfd := hf.of hi
  have hN : 2 ^ j ≤ 65536 := Nat.pow_le_pow_right (n := 2) (by omega) hj
  have hsl := sumsV_len (c := c) (cols := cols) (2 ^ j)
  have hso := hc.ok.sums
  have q1 : decide (sumsV c cols (2 ^ j) = sumsV c cols (2 ^ j)) = true := decide_eq_true rfl
  (repeat refine .z rfl ?_); refine .text ?_; simp (disch := first | exact dsc | fail) only [go_sem, seval]
  (repeat refine .z rfl ?_); refine .text ?_; simp (disch := first | exact dsc | fail) only [go_sem, seval]
  have n1 : (d.inputs != c.inputs) = false := by rw [hi]; simp
  have n2 : (d.sums != c.sums) = false := by rw [hs]; simp
  have n3 : ((d.layers.length : Int) != (c.layers.length : Int)) = false := by rw [hl]; simp
  refine CallK.of (fun R h => R16_Valid_spec d hd _ R h) ?_; simp (disch := first | exact dsc | fail) only [go_sem, seval, n1, n2, n3]
  (repeat refine .z rfl ?_); refine .ifF (by simp (disch := first | exact dsc | fail) only [go_sem, seval]) ?_
  refine .skip ?_
  (repeat refine .z rfl ?_); refine .text ?_; simp (disch := first | exact dsc | fail) only [go_sem, seval]
  refine CallK.of (fun R h => R16_Sums_spec c hc cols j hj hf _ R h) ?_; simp (disch := first | exact dsc | fail) only [go_sem, seval]
  (repeat refine .z rfl ?_); refine .text ?_; simp (disch := first | exact dsc | fail) only [go_sem, seval]
  refine CallK.of (fun R h => R16_Sums_spec d hd cols j hj hfd _ R h) ?_; simp (disch := first | exact dsc | fail) only [go_sem, seval, e1]
  (repeat refine .z rfl ?_); refine .text ?_; simp (disch := first | exact dsc | fail) only [go_sem, seval]
  refine CallK.of (fun R h => R16_Zeros_spec c hc cols _ hN hf _ R h) ?_; simp (disch := first | exact dsc | fail) only [go_sem, seval]
  (repeat refine .z rfl ?_); refine .text ?_; simp (disch := first | exact dsc | fail) only [go_sem, seval]
  refine CallK.of (fun R h => R16_Zeros_spec d hd cols _ hN hfd _ R h) ?_; simp (disch := first | exact dsc | fail) only [go_sem, seval, e2]
  (repeat refine .z rfl ?_); refine .text ?_; simp (disch := first | exact dsc | fail) only [go_sem, seval]
  refine CallK.of (fun R h => R01_Same_spec _ _ (by omega) (by omega) _ R h) ?_; simp (disch := first | exact dsc | fail) only [go_sem, seval, q1, beq_self_eq_true]
  (repeat refine .z rfl ?_); refine .rt Try.func25 (by rw [Try.results25]) (hx := by simp (disch := first | exact dsc | fail) only [go_sem, seval, beq_self_eq_true]; rfl) (hR := ?_); simp (disch := first | exact dsc | fail) only [go_sem, seval, beq_self_eq_true]
  exact h

set_option maxHeartbeats 8000000 in
theorem W19_DeadPreserves_spec (c : Circ) (cols : List (List U)) (lg : BitVec 8) (hl : c.layers.length ≤ 9223372036854775807) (hr : ∀ i, i < c.layers.length → (nth c.layers i).length ≤ 9223372036854775807) (hl2 : cols.length ≤ 9223372036854775807) (hr2 : ∀ i, i < cols.length → (nth cols i).length ≤ 9223372036854775807)
    (H : Hp) (R : AV → Hp → Prop) (h : R (.p (bo true)) H) : ACall Try.prog G 6 [.p (inpV c cols lg)] H R := by
  refine ACall.of_run (raw := []) Try.func6 rfl Try.ntmps6 (by simp) fun hbel => ?_
  have hv := made_vd c
  have hf := mdCols_fits c cols lg
  have hfv := mdCols_fv c cols (2 ^ (lg.toNat % 3))
  (repeat refine .z rfl ?_); refine .text ?_; simp (disch := first | exact dsc | fail) only [go_sem, seval]
  (repeat refine .z rfl ?_); refine .text ?_; simp (disch := first | exact dsc | fail) only [go_sem, seval]
  refine CallK.of (fun R h => W19_sanity_spec _ R h) ?_; simp (disch := first | exact dsc | fail) only [go_sem, seval]
  (repeat refine .z rfl ?_); refine .text ?_; simp (disch := first | exact dsc | fail) only [go_sem, seval]
  refine CallK.of (fun R h => W19_made_spec c cols lg hl hr hl2 hr2 _ R h) ?_; simp (disch := first | exact dsc | fail) only [go_sem, seval]
  generalize columns cols (mdI c).toNat (2 ^ (lg.toNat % 3)) = cs at *
  generalize made c = m at *
  obtain ⟨j, hj⟩ : ∃ j, lg.toNat % 3 = j := ⟨_, rfl⟩
  rw [hj] at hf
  have hj16 : j ≤ 16 := by omega
  have vd := hv.dead
  have hfc : ∀ r, r < 2 ^ j → Fv (colsAt cs r) := fun r hr => colsAt_fv hfv hf.len hr
  have hin : (deadG m).inputs = m.inputs := rfl
  have hsu : (deadG m).sums = m.sums := rfl
  have hln : (deadG m).layers.length = m.layers.length := tab_len
  have e1 : sumsV (deadG m) cs (2 ^ j) = sumsV m cs (2 ^ j) := by
    refine sums_of hsu fun r hr i hi => ?_
    rw [dead_eq hv.ok]
    have := (outV_dead hv (hfc r hr)).1 i hi
    unfold outV
    rw [dead_len]; exact this
  have e2 : zerosO (deadG m) cs (2 ^ j) = zerosO m cs (2 ^ j) := by
    refine zeros_of fun r hr => ?_
    rw [hsu, dead_eq hv.ok]
    have := (outV_dead hv (hfc r hr)).2
    unfold outV
    rw [dead_len]; exact this
  have hle : ∀ k, k < m.layers.length → (nth (deadG m).layers k).length ≤ (nth m.layers k).length := fun k hk => by
    rw [dead_eq hv.ok]
    have hn : nth (deadR m).layers k = dlTo m k (nth m.layers k).length := nth_tab hk
    rw [hn]
    exact dlTo_le m k _
  have hml := hv.ok.len
  (repeat refine .z rfl ?_); refine .text ?_; simp (disch := first | exact dsc | fail) only [go_sem, seval]
  refine CallK.of (fun R h => optimize_Dead_spec m hv.ok _ R h) ?_; simp (disch := first | exact dsc | fail) only [go_sem, seval]
  generalize deadG m = d at *
  (repeat refine .z rfl ?_); refine .text ?_; simp (disch := first | exact dsc | fail) only [go_sem, seval]
  refine CallK.of (fun R h => W19_equivalent_spec m d hv vd cs j hj16 hf hin hsu hln e1 e2 _ R h) ?_; simp (disch := first | exact dsc | fail) only [go_sem, seval]
  (repeat refine .z rfl ?_); refine .ifF (by simp (disch := first | exact dsc | fail) only [go_sem, seval]) ?_
  refine .skip ?_
  (repeat refine .z rfl ?_); refine .text ?_; simp (disch := first | exact dsc | fail) only [go_sem, seval]
  (repeat refine .z rfl ?_); refine .loopE [3, 4, 6] (fun k => [(7, .p (i64 k))]) (fun k => []) (fun k => True) (0) (m.layers.length) (by omega) ?_ (by first | rfl | (simp (disch := first | exact dsc | fail) only [go_sem, seval] <;> rfl)) ?_ ?_ ?_
  · simp (disch := first | exact dsc | fail) only [go_sem, seval] <;> (repeat' (first | rfl | refine And.intro ?_ ?_))
  · exact trivial
  intro env E hQ; simp (disch := first | exact dsc | fail) only [go_sem, seval] at E
  rotate_left 1
  intro k env hk0 hk E hQ ihE; simp (disch := first | exact dsc | fail) only [go_sem, seval] at E
  rotate_left 1
  · (repeat refine .z rfl ?_); refine .text ?_; simp (disch := first | exact dsc | fail) only [go_sem, seval, E]
    (repeat refine .z rfl ?_); refine .ifF (by simp (disch := first | exact dsc | fail) only [go_sem, seval]) ?_
    (repeat refine .z rfl ?_); refine .text ?_; simp (disch := first | exact dsc | fail) only [go_sem, seval, E]
    (repeat refine .z rfl ?_); refine .rt Try.func6 (by rw [Try.results6]) (hR := ?_); simp (disch := first | exact dsc | fail) only [go_sem, seval]
    exact h
  · have h1 := hle k hk
    have h2 := (hv.ok.row k hk).2
    have h3 : decide (((nth m.layers k).length : Int) < ((nth d.layers k).length : Int)) = false := by simp only [decide_eq_false_iff_not]; omega
    (repeat refine .z rfl ?_); refine .text ?_; simp (disch := first | exact dsc | fail) only [go_sem, seval, E]
    (repeat refine .z rfl ?_); refine .ifT (by simp (disch := first | exact dsc | fail) only [go_sem, seval]) ?_
    (repeat refine .z rfl ?_); refine .open [] follows (by kernel_rfl) ?_; simp (disch := first | exact dsc | fail) only [go_sem, seval, E, h3]
    (repeat refine .z rfl ?_); refine .ifF (by simp (disch := first | exact dsc | fail) only [go_sem, seval]) ?_
    refine .skip ?_
    (repeat refine .z rfl ?_); refine .text ?_; simp (disch := first | exact dsc | fail) only [go_sem, seval, E]
    first | (refine ihE _ _ ?_ trivial ?_) | (refine .z rfl ?_; refine ihE _ _ ?_ trivial ?_) | (refine .z rfl ?_; refine .z rfl ?_; refine ihE _ _ ?_ trivial ?_) | (refine .z rfl ?_; refine .z rfl ?_; refine .z rfl ?_; refine ihE _ _ ?_ trivial ?_)
    · simp (disch := first | exact dsc | fail) only [go_sem, seval, E] <;> (repeat' (first | rfl | refine And.intro ?_ ?_))
    · first | rfl | (simp (disch := first | exact dsc | fail) only [go_sem, seval, E] <;> (try rfl))
end walks
end Go.Proofs.Ytjnbifkojpfdgaa

/-
  What the laws' arguments read as.
-/
namespace Go.Proofs.Ytjnbifkojpfdgaa
open Go Go.AL Go.ChangeShapes Go.WideShapes Go.ChangeAt Go.RowKit

theorem own : ownKnob Try.prog.godebug = none := by kernel_rfl
theorem laidOut : laidOutB Try.prog = true := by kernel_rfl
def GG : Globs := fun _ => none
theorem rel_start {W : World} : Rel GG σ0 H0 W := rel0 fun g sz xs hg => by cases hg
/-- A world for the witness. -/
noncomputable def laidWorld (os : Os) : World := World.holding Try.prog os ⟨#[], #[], []⟩

section read
variable {k : Nat} {y : List PV}
theorem rd_gate (h : Reads Try.prog (k + 2) 46 y) : ∃ g : Gate, packB true y = gate g ∧ True := by
  obtain ⟨y1, z1, rfl, -, r1, y2, z2, rfl, -, r2, y3, z3, rfl, -, r3, y4, z4, rfl, -, r4, y5, z5, rfl, -, r5, y6, z6, rfl, -, r6, rfl⟩ := Reads.struct Try.underlying46 h
  obtain ⟨l, -, -, rfl⟩ := Reads.i64 Try.underlying3 r1
  obtain ⟨r, -, -, rfl⟩ := Reads.i64 Try.underlying3 r2
  obtain ⟨c, rfl⟩ := Reads.u64 Try.underlying44 r3
  obtain ⟨a, rfl⟩ := Reads.u64 Try.underlying44 r4
  obtain ⟨b, rfl⟩ := Reads.u64 Try.underlying44 r5
  obtain ⟨d, rfl⟩ := Reads.u64 Try.underlying44 r6
  exact ⟨⟨l, r, c, a, b, d⟩, rfl, trivial⟩
theorem rd_layers (h : Reads Try.prog (k + 4) 22 y) : ∃ ls : List (List Gate), ls.length ≤ 9223372036854775807 ∧ y = [.sl false 1 (pl (sle 6 gate) ls)] ∧ ∀ l ∈ ls, l.length ≤ 9223372036854775807 :=
  Reads.sl (sle 6 gate) (fun l => l.length ≤ 9223372036854775807) Try.underlying22 cells40 aggT40 h fun y hy => by
    obtain ⟨l, h1, rfl, -⟩ := Reads.sl gate (fun _ => True) Try.underlying40 cells46 aggT46 hy fun y hy => rd_gate hy
    exact ⟨l, rfl, h1⟩
theorem rd_cols (h : Reads Try.prog (k + 4) 25 y) : ∃ ls : List (List U), ls.length ≤ 9223372036854775807 ∧ y = [.sl false 1 (pl (sle 1 w64) ls)] ∧ ∀ l ∈ ls, l.length ≤ 9223372036854775807 :=
  Reads.sl (sle 1 w64) (fun l => l.length ≤ 9223372036854775807) Try.underlying25 cells42 aggT42 h fun y hy => by
    obtain ⟨l, h1, rfl, -⟩ := Reads.sl w64 (fun _ => True) Try.underlying42 cells44 aggT44 hy fun y hy => by
      obtain ⟨b, rfl⟩ := Reads.u64 Try.underlying44 hy
      exact ⟨b, rfl, trivial⟩
    exact ⟨l, rfl, h1⟩
theorem rd_circ (h : Reads Try.prog (k + 5) 24 y) : ∃ c : Circ, c.layers.length ≤ 9223372036854775807 ∧ (∀ l ∈ c.layers, l.length ≤ 9223372036854775807) ∧ y = [i64 c.inputs, .sl false 1 (pl (sle 6 gate) c.layers), i64 c.sums] := by
  obtain ⟨y1, z1, rfl, -, r1, y2, z2, rfl, -, r2, y3, z3, rfl, -, r3, rfl⟩ := Reads.struct Try.underlying24 h
  obtain ⟨n, -, -, rfl⟩ := Reads.i64 Try.underlying3 r1
  obtain ⟨ls, h1, rfl, h2⟩ := rd_layers r2
  obtain ⟨s, -, -, rfl⟩ := Reads.i64 Try.underlying3 r3
  exact ⟨⟨n, ls, s⟩, h1, h2, rfl⟩
end read

theorem nth_mem {α : Type} [Inhabited α] {l : List α} {i : Nat} (h : i < l.length) : nth l i ∈ l := by
  have : nth l i = l[i] := by simp [nth, h]
  rw [this]; exact List.getElem_mem h

section rel
variable {W : World} {v : Value} {H : Type} {enc : TypeId × Value → H} {d : DataW H} {ps : List MemPlace} {base : Nat}
theorem rel_inp (hval : Value.okWide Try.prog W .any base 27 v) (h : DataW.Trod enc Try.prog W 0 (fun _ => true) true 27 v d ps) :
    ∃ (c : Circ) (cols : List (List U)) (lg : BitVec 8), c.layers.length ≤ 9223372036854775807 ∧ (∀ i, i < c.layers.length → (nth c.layers i).length ≤ 9223372036854775807) ∧ cols.length ≤ 9223372036854775807 ∧ (∀ i, i < cols.length → (nth cols i).length ≤ 9223372036854775807) ∧ RelV σ0 H0 W (.p (inpV c cols lg)) v := by
  obtain ⟨xs, hx, e⟩ := rel_read 8 (by kernel_rfl) hval h
  obtain ⟨y1, z1, rfl, -, r1, y2, z2, rfl, -, r2, y3, z3, rfl, -, r3, rfl⟩ := Reads.struct (k := 7) Try.underlying27 hx
  obtain ⟨c, h1, h2, rfl⟩ := rd_circ r1
  obtain ⟨cols, h3, rfl, h4⟩ := rd_cols r2
  obtain ⟨lg, rfl⟩ := Reads.u8 Try.underlying5 r3
  rw [aggT27] at e
  exact ⟨c, cols, lg, h1, fun i hi => h2 _ (nth_mem hi), h3, fun i hi => h4 _ (nth_mem hi), e⟩
theorem rel_u8 (hval : Value.okWide Try.prog W .any base 5 v) (h : DataW.Trod enc Try.prog W 0 (fun _ => true) true 5 v d ps) : ∃ b : BitVec 8, RelV σ0 H0 W (.p (b8 b)) v := by
  obtain ⟨xs, hx, e⟩ := rel_read 1 (by kernel_rfl) hval h
  obtain ⟨b, rfl⟩ := Reads.u8 (k := 0) Try.underlying5 hx
  rw [aggT5] at e
  exact ⟨b, e⟩
theorem rel_u16 (hval : Value.okWide Try.prog W .any base 48 v) (h : DataW.Trod enc Try.prog W 0 (fun _ => true) true 48 v d ps) : ∃ b : BitVec 16, RelV σ0 H0 W (.p (w16 b)) v := by
  obtain ⟨xs, hx, e⟩ := rel_read 1 (by kernel_rfl) hval h
  obtain ⟨b, rfl⟩ := Reads.u16 (k := 0) Try.underlying48 hx
  rw [aggT48] at e
  exact ⟨b, e⟩
end rel
end Go.Proofs.Ytjnbifkojpfdgaa
