/-
  A region whose order is open, that makes rows of its own and stores its quiet results into them, in any order.
  Conditions: none; nothing here speaks of one program.
-/
import Derived.Test.YtkpeknkpleocgaaDoorEngU
set_option linter.unusedSimpArgs false
set_option linter.unusedVariables false
namespace Go.AL
open Go

theorem app_set_hi {x : AB} : ∀ {T : List AB} {H : Hp} {k : Nat}, k < T.length → (app H T).set (H.n + k) x = app H (T.set k x)
  | [], H, k, h => by simp at h
  | y :: T, H, 0, h => by
    rw [app_cons, Nat.add_zero, app_set (by rw [n_new']; omega), set_new_eq rfl, List.set_cons_zero, app_cons]
  | y :: T, H, k + 1, h => by
    have := app_set_hi (x := x) (T := T) (H := H.new y) (k := k) (by simpa using h)
    rw [n_new'] at this
    rw [app_cons, show H.n + (k + 1) = H.n + 1 + k by omega, this, List.set_cons_succ, app_cons]

theorem acells_below {n : Nat} {x : AV} {xs : List AV} (h : acells x = some xs) (hb : BelowN n x) : ∀ y ∈ xs, BelowN n y := by
  intro y hy
  cases hb with
  | p x =>
    cases x with
    | agg ys => simp only [acells, Option.some.injEq] at h; subst h; obtain ⟨z, _, rfl⟩ := List.mem_map.1 hy; exact .p z
    | _ => simp only [acells, Option.some.injEq] at h; subst h; simp only [List.mem_singleton] at hy; subst hy; exact .p _
  | agg ys hs => simp only [acells, Option.some.injEq] at h; subst h; obtain ⟨i, hi⟩ := List.getElem?_of_mem hy; exact hs i y hi
  | tup ys hs => cases h
  | top => cases h
  | sl a v sz ys hb => simp only [acells, Option.some.injEq] at h; subst h; simp only [List.mem_singleton] at hy; subst hy; exact .sl _ _ _ _ hb
  | ref b off len sz hb => simp only [acells, Option.some.injEq] at h; subst h; simp only [List.mem_singleton] at hy; subst hy; exact .ref _ _ _ _ hb
  | ptr b off hb => simp only [acells, Option.some.injEq] at h; subst h; simp only [List.mem_singleton] at hy; subst hy; exact .ptr _ _ hb
  | ip sz ys i sub => simp only [acells, Option.some.injEq] at h; subst h; simp only [List.mem_singleton] at hy; subst hy; exact .ip _ _ _ _
  | clo f a c h1 h2 => simp only [acells, Option.some.injEq] at h; subst h; simp only [List.mem_singleton] at hy; subst hy; exact .clo _ _ _ h1 h2
  | yld b hb => simp only [acells, Option.some.injEq] at h; subst h; simp only [List.mem_singleton] at hy; subst hy; exact .yld _ hb

theorem setAt_mem {cs xs : List AV} {y : AV} (h : 0 + xs.length ≤ cs.length) (hy : y ∈ setAt cs 0 xs) : y ∈ cs ∨ y ∈ xs := by
  rw [setAt_eq _ _ _ h] at hy
  simp only [List.mem_append] at hy
  rcases hy with (hy | hy) | hy
  · exact .inl (List.mem_of_mem_take hy)
  · exact .inr hy
  · exact .inl (List.mem_of_mem_drop hy)

/-- The slot of the row that this operation stores into. -/
def stSlot (ops : Array Oper) (i : Nat) : Option Nat := match ops[i]? with
  | some o => (match o.op with | .store _ (.tmp s) _ => some s | _ => none)
  | none => none

/-- The store that fills the row of allocation j. -/
def tgt (ops : Array Oper) (p p2 j : Nat) : Option Nat := (List.range p2).find? fun i => decide (p ≤ i) && (stSlot ops i).isSome && stSlot ops i == dstOf ops j

def okF (ops : Array Oper) (p1 p p2 : Nat) : Bool :=
  p1 ≤ p && p ≤ p2 && p2 ≤ ops.size && (List.range ops.size).all fun i => match ops[i]? with
    | none => false
    | some o =>
      if i < p2 then
        o.after.all (fun e => !Region.binds .any e || decide (e.on < i)) &&
        (if i < p then
          (List.range p).all (fun j => j == i || (dstOf ops j).isNone || dstOf ops j != o.dst) &&
          (if i < p1 then
            (List.range p).all (fun j => match dstOf ops j with
              | some s => !(o.looksAt ops).contains s || (decide (j < i) && decide (j < p1) && waitsFor o j)
              | none => true)
          else (match o.op with | .alloc _ => true | _ => false) && o.guard.isNone && o.dst.isSome)
        else o.guard.isNone && o.dst.isNone && (match o.op with
          | .store _ (.tmp s) (.tmp v) => (List.range p).any (fun j => decide (p1 ≤ j) && dstOf ops j == some s && waitsFor o j) && (List.range p1).any (fun u => dstOf ops u == some v && waitsFor o u) &&
            (List.range p2).all (fun i' => i' == i || decide (i' < p) || stSlot ops i' != some s)
          | _ => false))
      else (List.range p2).all fun j => (closeDown ops p2 ((edgesOf o).filter fun j => decide (j < p2))).contains j

structure OkF (ops : Array Oper) (p1 p p2 : Nat) : Prop where
  le : p1 ≤ p
  le2 : p ≤ p2
  size : p2 ≤ ops.size
  dst : ∀ i o j s, ops[i]? = some o → i < p → j < p → o.dst = some s → dstOf ops j = some s → j = i
  back : ∀ (i : Nat) o, ops[i]? = some o → i < p2 → ∀ e ∈ o.after, Region.binds .any e = true → e.on < i
  quiet : ∀ (i : Nat) o, ops[i]? = some o → i < p1 → ∀ s ∈ o.looksAt ops, ∀ j, j < p → dstOf ops j = some s → j < i ∧ j < p1 ∧ waitsFor o j = true
  alloc : ∀ (i : Nat) o, ops[i]? = some o → p1 ≤ i → i < p → (∃ t, o.op = .alloc t) ∧ o.guard = none ∧ ∃ s, o.dst = some s
  fill : ∀ (i : Nat) o, ops[i]? = some o → p ≤ i → i < p2 → o.guard = none ∧ o.dst = none ∧ ∃ t s v j u, o.op = .store t (.tmp s) (.tmp v) ∧ p1 ≤ j ∧ j < p ∧ dstOf ops j = some s ∧ waitsFor o j = true ∧
    u < p1 ∧ dstOf ops u = some v ∧ waitsFor o u = true ∧ ∀ i', p ≤ i' → i' < p2 → stSlot ops i' = some s → i' = i
  late : ∀ (i : Nat) o, ops[i]? = some o → p2 ≤ i → ∀ j, j < p2 → j ∈ closeDown ops p2 ((edgesOf o).filter fun j => decide (j < p2))

theorem okF_spec {ops : Array Oper} {p1 p p2 : Nat} (h : okF ops p1 p p2 = true) : OkF ops p1 p p2 := by
  simp only [okF, Bool.and_eq_true, decide_eq_true_eq, List.all_eq_true, List.mem_range] at h
  obtain ⟨⟨⟨h1, h2⟩, h3⟩, h4⟩ := h
  have lt : ∀ {i : Nat} {o : Oper}, ops[i]? = some o → i < ops.size := fun h => (Array.getElem?_eq_some_iff.1 h).1
  refine ⟨h1, h2, h3, fun i o j s hi hip hj hd hdj => ?_, fun i o hi hip e he hb => ?_, fun i o hi hip s hs j hj hdj => ?_, fun i o hi hp1 hip => ?_, fun i o hi hp hip => ?_, fun i o hi hip j hj => ?_⟩
  · have := h4 i (lt hi)
    simp only [hi, if_pos (show i < p2 by omega), if_pos hip, Bool.and_eq_true, List.all_eq_true, List.mem_range] at this
    have := this.2.1 j hj
    simpa [hdj, hd] using this
  · have := h4 i (lt hi)
    simp only [hi, if_pos hip, Bool.and_eq_true, Array.all_eq_true'] at this
    have := this.1 e he
    simpa [hb] using this
  · have := h4 i (lt hi)
    simp only [hi, if_pos (show i < p2 by omega), if_pos (show i < p by omega), if_pos hip, Bool.and_eq_true, List.all_eq_true, List.mem_range] at this
    have := this.2.2 j hj
    simp only [hdj, Bool.or_eq_true, Bool.not_eq_true', Bool.and_eq_true, decide_eq_true_eq] at this
    rcases this with h | h
    · rw [List.contains_eq_mem, decide_eq_false_iff_not] at h; exact absurd hs h
    · exact ⟨h.1.1, h.1.2, h.2⟩
  · have := h4 i (lt hi)
    simp only [hi, if_pos (show i < p2 by omega), if_pos hip, if_neg (show ¬i < p1 by omega), Bool.and_eq_true, Option.isNone_iff_eq_none, Option.isSome_iff_exists] at this
    obtain ⟨_, _, ⟨h4, h5⟩, h6⟩ := this
    refine ⟨?_, h5, h6⟩
    split at h4
    · rename_i t ht; exact ⟨t, ht⟩
    · cases h4
  · have := h4 i (lt hi)
    simp only [hi, if_pos hip, if_neg (show ¬i < p by omega), Bool.and_eq_true, Option.isNone_iff_eq_none] at this
    obtain ⟨_, ⟨h5, h6⟩, h7⟩ := this
    refine ⟨h5, h6, ?_⟩
    split at h7
    · rename_i t s v ht
      simp only [Bool.and_eq_true, List.any_eq_true, List.mem_range, decide_eq_true_eq, beq_iff_eq, List.all_eq_true, Bool.or_eq_true, bne_iff_ne] at h7
      obtain ⟨⟨⟨j, j1, ⟨j2, j3⟩, j4⟩, u, u1, u2, u3⟩, hu⟩ := h7
      exact ⟨t, s, v, j, u, ht, j2, j1, j3, j4, u1, u2, u3, fun i' a b c => by
        rcases hu i' b with (e | e) | e
        · exact e
        · omega
        · exact absurd c e⟩
    · cases h7
  · have := h4 i (lt hi)
    simp only [hi, if_neg (show ¬i < p2 by omega), List.all_eq_true, List.mem_range] at this
    simpa using this j hj

/-- The rows of the allocations, where the operations tr have run. -/
def row (ops : Array Oper) (p p2 : Nat) (zs fs : Nat → List AV) (tr : List Nat) (j : Nat) : List AV := match tgt ops p p2 j with
  | some i => if i ∈ tr then fs i else zs j
  | none => zs j

theorem tgt_of {ops : Array Oper} {p1 p p2 i j s : Nat} (hok : OkF ops p1 p p2) (hp : p ≤ i) (hi : i < p2) (hs : stSlot ops i = some s) (hj : dstOf ops j = some s) : tgt ops p p2 j = some i := by
  have hio : ∃ o, ops[i]? = some o := ⟨ops[i]'(by have := hok.size; omega), by simp⟩
  obtain ⟨o, ho⟩ := hio
  obtain ⟨_, _, t, s', v, j', u, hop, _, _, _, _, _, _, _, huniq⟩ := hok.fill i o ho hp hi
  have hs' : stSlot ops i = some s' := by simp [stSlot, ho, hop]
  obtain rfl : s' = s := by rw [hs'] at hs; exact Option.some.inj hs
  unfold tgt
  cases hf : (List.range p2).find? (fun i => decide (p ≤ i) && (stSlot ops i).isSome && stSlot ops i == dstOf ops j) with
  | none =>
    have := List.find?_eq_none.1 hf i (by simpa using hi)
    simp [hp, hs, hj] at this
  | some i' =>
    have h1 := List.find?_some hf
    have h2 := List.mem_of_find?_eq_some hf
    simp only [Bool.and_eq_true, decide_eq_true_eq, beq_iff_eq] at h1
    rw [huniq i' h1.1.1 (by simpa using h2) (by rw [h1.2, hj])]

theorem tgt_some {ops : Array Oper} {p p2 i j : Nat} (h : tgt ops p p2 j = some i) : p ≤ i ∧ i < p2 ∧ ∃ s, stSlot ops i = some s ∧ dstOf ops j = some s := by
  unfold tgt at h
  have h1 := List.find?_some h
  have h2 := List.mem_of_find?_eq_some h
  simp only [Bool.and_eq_true, decide_eq_true_eq, beq_iff_eq] at h1
  obtain ⟨s, hs⟩ := Option.isSome_iff_exists.1 h1.1.2
  exact ⟨h1.1.1, by simpa using h2, s, hs, by rw [← h1.2, hs]⟩

theorem row_low {ops : Array Oper} {p p2 i j : Nat} {zs fs : Nat → List AV} {tr : List Nat} (h : i < p) : row ops p p2 zs fs (i :: tr) j = row ops p p2 zs fs tr j := by
  unfold row
  cases ht : tgt ops p p2 j with
  | none => rfl
  | some i' =>
    have := (tgt_some ht).1
    have hne : i' ≠ i := by omega
    simp [hne]

structure Inv2 (C : Cx) (l : List Oper) (p1 p p2 : Nat) (X : List AV) (zs fs : Nat → List AV) (env0 : Env) (H : Hp) (σs : Gh) (ws : World) (m : Nat)
    (tr : List (Nat × AV)) (rem E : List Nat) (T : List AB) (listed : Array Bool) (σ : Gh) (w : World) (a : Act) : Prop where
  nd : (tr.map (·.1)).Nodup
  rnd : rem.Nodup
  rem : ∀ i, i ∈ rem ↔ i < p2 ∧ i ∉ tr.map (·.1)
  lt : ∀ i, i ∈ tr.map (·.1) → i < p2
  q : ∀ i x, (i, x) ∈ tr → i < p1 → X[i]? = some x
  al : ∀ i x, (i, x) ∈ tr → p1 ≤ i → i < p → ∃ k : Nat, E[k]? = some i ∧ x = .ptr (H.n + k) 0
  end_ : E.Nodup
  eiff : ∀ i, i ∈ E ↔ p1 ≤ i ∧ i < p ∧ i ∈ tr.map (·.1)
  t : T = E.map fun i => .cells (row l.toArray p p2 zs fs (tr.map (·.1)) i)
  cl : ∀ (k : Nat) o, l.toArray[k]? = some o → k ∈ tr.map (·.1) → ∀ e ∈ o.after, Region.binds .any e = true → e.on ∈ tr.map (·.1)
  lsz : listed.size = l.length
  lget : ∀ i, i < l.length → listed.getD i true = decide (i ∈ tr.map (·.1))
  rel : Rel C.G σ (app H T) w
  fr : RelF C.nt m σ (app H T) w (after l.toArray env0 tr) a
  ev : Ev H.n σs H ws σ (app H T) w

section phase
variable {C : Cx} {l : List Oper} {p1 p p2 : Nat} {X : List AV} {zs fs : Nat → List AV} {env0 : Env} {H : Hp} {σs : Gh} {ws : World} {m : Nat} {ro : Option Nat} {R1 : Exit → Act → World → Prop}

theorem phase2 (hok : OkF l.toArray p1 p p2) (hop : ∀ (i : Nat) o x, i < p1 → l[i]? = some o → X[i]? = some x → OpOK C l.toArray o (puts (l.take i) (X.take i) env0) H x) (hX : X.length = p1)
    (haz : ∀ (i : Nat) o t, p1 ≤ i → i < p → l[i]? = some o → o.op = .alloc t → ∃ z, azero C.P t = some z ∧ zs i = z.map .p ∧ dstOK C.nt o.dst = true)
    (hfl : ∀ (i : Nat) o t s v j u x, p ≤ i → i < p2 → l[i]? = some o → o.op = .store t (.tmp s) (.tmp v) → p1 ≤ j → j < p → dstOf l.toArray j = some s → u < p1 → dstOf l.toArray u = some v → X[u]? = some x →
      ∃ xs, acells x = some xs ∧ (C.P.underlying t).isSome ∧ C.P.cellsOf t = xs.length ∧ 0 + xs.length ≤ (zs j).length ∧ fs i = setAt (zs j) 0 xs)
    (hfin : ∀ tr E T listed σ w a, Inv2 C l p1 p p2 X zs fs env0 H σs ws m tr [] E T listed σ w a → wpAnyIn { Fence.wide with round := ro } 0 C.P .any l.toArray R1 (l.length - p2) listed a w) :
    ∀ r tr rem E T listed σ w a, rem.length = r → Inv2 C l p1 p p2 X zs fs env0 H σs ws m tr rem E T listed σ w a → wpAnyIn { Fence.wide with round := ro } 0 C.P .any l.toArray R1 (r + (l.length - p2)) listed a w := by
  intro r
  induction r with
  | zero =>
    intro tr rem E T listed σ w a hr I
    have : rem = [] := List.eq_nil_of_length_eq_zero hr
    subst this
    rw [Nat.zero_add]
    exact hfin tr E T listed σ w a I
  | succ r ih =>
    intro tr rem E T listed σ w a hr I
    have hpl : p2 ≤ l.length := by simpa using hok.size
    have hle := hok.le
    have hle2 := hok.le2
    have hunl : ∀ i, i < l.length → (listed.getD i true = false ↔ i ∉ tr.map (·.1)) := fun i hi => by rw [I.lget i hi]; simp
    have hlis : ∀ i, i < l.length → listed.getD i false = true → i ∈ tr.map (·.1) := fun i hi h => by
      rw [getD_lt (by rw [I.lsz]; exact hi) false true, I.lget i hi] at h
      simpa using h
    have hlis' : ∀ i, i < l.length → i ∈ tr.map (·.1) → listed.getD i false = true := fun i hi h => by
      rw [getD_lt (by rw [I.lsz]; exact hi) false true, I.lget i hi]
      simpa using h
    have hne : rem ≠ [] := fun h => by rw [h] at hr; cases hr
    have hsome : ¬∀ i, i < p2 → i ∈ tr.map (·.1) := fun h => by
      obtain ⟨i, hi⟩ := List.exists_mem_of_ne_nil rem hne
      exact ((I.rem i).1 hi).2 (h i ((I.rem i).1 hi).1)
    rw [show r + 1 + (l.length - p2) = (r + (l.length - p2)) + 1 by omega]
    refine ⟨fun h0 => ?_, fun i hi => ?_⟩
    · refine absurd ?_ hsome
      intro i
      induction i using Nat.strongRecOn with
      | _ i ihi =>
        intro hip
        refine Classical.byContradiction fun hni => ?_
        have hil : i < l.length := by omega
        have hoi : l.toArray[i]? = some l[i] := by simp [hil]
        have : i ∈ Region.ready .any l.toArray listed := mem_ready.2 ⟨(hunl i hil).2 hni, l[i], hoi, fun e he hb => by
          have hlt := hok.back i _ hoi hip e he hb
          exact hlis' _ (by omega) (ihi _ hlt (by omega))⟩
        rw [h0] at this
        cases this
    · obtain ⟨hun, o, ho, hall⟩ := mem_ready.1 hi
      have hil : i < l.length := by simpa using (Array.getElem?_eq_some_iff.1 ho).1
      have hol : l[i]? = some o := by simpa using ho
      have hni := (hunl i hil).1 hun
      have hip : i < p2 := Classical.byContradiction fun h => hsome fun j hj => closeDown_sub (S := fun j => j ∈ tr.map (·.1)) I.cl p2 _ (fun j' hj' => by
        obtain ⟨h1, h2⟩ := List.mem_filter.1 hj'
        obtain ⟨e, he, rfl⟩ := List.mem_map.1 h1
        obtain ⟨h3, h4⟩ := List.mem_filter.1 he
        exact hlis _ (by simp at h2; omega) (hall e (Array.mem_toList_iff.1 h3) h4)) j (hok.late i o ho (by omega) j hj)
      have hirem : i ∈ rem := (I.rem i).2 ⟨hip, hni⟩
      have hdst : dstOf l.toArray i = o.dst := by simp [dstOf, ho]
      have hwt : ∀ j, j < l.length → waitsFor o j = true → j ∈ tr.map (·.1) := fun j hj hw => hlis j hj (waitsFor_listed hw hall)
      -- what is handed on
      have go : ∀ (x : AV) (v : Value) (E' : List Nat) (T' : List AB) (σ' : Gh) (w' : World), E'.Nodup → (∀ j, j ∈ E' ↔ p1 ≤ j ∧ j < p ∧ (j = i ∨ j ∈ tr.map (·.1))) → (∀ (k : Nat) j, E[k]? = some j → E'[k]? = some j) → T' = E'.map (fun j => .cells (row l.toArray p p2 zs fs (i :: tr.map (·.1)) j)) →
          (i < p1 → X[i]? = some x) → (p1 ≤ i → i < p → ∃ k : Nat, E'[k]? = some i ∧ x = .ptr (H.n + k) 0) → Rel C.G σ' (app H T') w' → RelV σ' (app H T') w' x v → Ev (app H T).n σ (app H T) w σ' (app H T') w' → dstOK C.nt o.dst = true →
          wpAnyIn { Fence.wide with round := ro } 0 C.P .any l.toArray R1 (r + (l.length - p2)) (listed.setIfInBounds i true) (a.put o.dst v) w' := by
        intro x v E' T' σ' w' hE1 hE2 hE3 hT hq hal hrel hrv hev hd
        refine ih ((i, x) :: tr) (rem.erase i) E' T' _ σ' w' _ (by rw [List.length_erase_of_mem hirem, hr]; rfl) ⟨?_, I.rnd.erase i, fun j => ?_, fun j hj => ?_, fun j y hj h1 => ?_, fun j y hj h1 h2 => ?_, hE1, fun j => ?_, hT, fun j o' ho' hj e he hb => ?_, ?_, fun j hj => ?_, hrel, ?_, I.ev.trans (hev.weaken (by rw [app_n']; omega)) (Nat.le_refl _)⟩
        · rw [List.map_cons, List.nodup_cons]; exact ⟨hni, I.nd⟩
        · rw [I.rnd.mem_erase_iff, I.rem, List.map_cons, List.mem_cons]
          constructor
          · exact fun h => ⟨h.2.1, fun h' => h'.elim h.1 h.2.2⟩
          · exact fun h => ⟨fun e => h.2 (.inl e), h.1, fun e => h.2 (.inr e)⟩
        · rw [List.map_cons, List.mem_cons] at hj
          rcases hj with rfl | hj
          · exact hip
          · exact I.lt j hj
        · rcases List.mem_cons.1 hj with h | h
          · cases h; exact hq h1
          · exact I.q j y h h1
        · rcases List.mem_cons.1 hj with h | h
          · cases h; exact hal h1 h2
          · obtain ⟨k, hk, hy⟩ := I.al j y h h1 h2
            exact ⟨k, hE3 k j hk, hy⟩
        · rw [List.map_cons, List.mem_cons]; exact hE2 j
        · rw [List.map_cons, List.mem_cons] at hj ⊢
          rcases hj with h | h
          · simp only at h
            subst h
            rw [ho] at ho'; cases ho'
            have := hok.back j o ho hip e he hb
            exact .inr (hlis _ (by omega) (hall e he hb))
          · exact .inr (I.cl j o' ho' h e he hb)
        · rw [Array.size_setIfInBounds]; exact I.lsz
        · rw [List.map_cons]
          by_cases hij : i = j
          · subst hij
            have : (listed.setIfInBounds i true).getD i true = true := by simp [Array.getD_eq_getD_getElem?]
            rw [this]; simp
          · rw [getD_set_ne true hij, I.lget j hj]
            simp [Ne.symm hij]
        · have := (I.fr.mono hev).put (dstOK_spec hd) hrv
          simp only [after, hdst]
          exact this
      have hlow : i < p → T = E.map (fun j => .cells (row l.toArray p p2 zs fs (i :: tr.map (·.1)) j)) := fun h => by
        rw [I.t]; exact List.map_congr_left fun j _ => by rw [row_low h]
      have hEno : ¬(p1 ≤ i ∧ i < p) → ∀ j, j ∈ E ↔ p1 ≤ j ∧ j < p ∧ (j = i ∨ j ∈ tr.map (·.1)) := fun hn j => by
        rw [I.eiff]
        constructor
        · exact fun h => ⟨h.1, h.2.1, .inr h.2.2⟩
        · rintro ⟨h1, h2, rfl | h3⟩
          · exact absurd ⟨h1, h2⟩ hn
          · exact ⟨h1, h2, h3⟩
      unfold wpOpIn
      simp only [ho]
      by_cases hi1 : i < p1
      · -- a quiet operation
        have hxi : X[i]? = some X[i] := by simp [hX, hi1]
        have hOK : OpOK C l.toArray o (after l.toArray env0 tr) H X[i] := by
          refine (hop i o X[i] hi1 hol hxi).congr fun s hs => ?_
          by_cases hw : ∃ j, j < p ∧ dstOf l.toArray j = some s
          · obtain ⟨j, hj, hdj⟩ := hw
            obtain ⟨h1, h2, h3⟩ := hok.quiet i o ho hi1 s hs j hj hdj
            have hjt := hlis j (by omega) (waitsFor_listed h3 hall)
            obtain ⟨⟨j', y⟩, hjy, rfl⟩ := List.mem_map.1 hjt
            have hjl : j' < l.length := by omega
            have hoj : l[j']? = some l[j'] := by simp [hjl]
            have hdd : l[j'].dst = some s := by simpa [dstOf, hoj] using hdj
            have hyx := I.q j' y hjy h2
            rw [after_get hjy hdj (fun k z hk hdk => by
              have hkp := I.lt k (List.mem_map.2 ⟨_, hk, rfl⟩)
              by_cases hkp' : k < p
              · exact hok.dst j' l[j'] k s (by simp [hjl]) hj hkp' hdd hdk
              · obtain ⟨_, hnone, _⟩ := hok.fill k l[k] (by first | (simp; done) | (simp; omega)) (by omega) hkp
                simp [dstOf, show k < l.length by omega, hnone] at hdk) I.nd]
            refine puts_get (j := j') (o := l[j']) (by rw [List.getElem?_take_of_lt h1]; exact hoj) (by rw [List.getElem?_take_of_lt h1]; exact hyx) hdd fun k o' hk hdk => ?_
            have hki : k < i := by have := (List.getElem?_eq_some_iff.1 hk).1; simp at this; omega
            rw [List.getElem?_take_of_lt hki] at hk
            exact hok.dst j' l[j'] k s (by simp [hjl]) hj (by omega) hdd (by simp [dstOf, hk, hdk])
          · rw [after_none fun j y hj hd => hw ⟨j, by
              refine Classical.byContradiction fun hjp => ?_
              have hj2 := I.lt j (List.mem_map.2 ⟨_, hj, rfl⟩)
              obtain ⟨_, hnone, _⟩ := hok.fill j l[j] (by first | (simp; done) | (simp; omega)) (by omega) hj2
              simp [dstOf, show j < l.length by omega, hnone] at hd, hd⟩]
            refine puts_none fun j o' hj hd => hw ⟨j, ?_, ?_⟩
            · have := (List.getElem?_eq_some_iff.1 hj).1; simp at this; omega
            · have hji : j < i := by have := (List.getElem?_eq_some_iff.1 hj).1; simp at this; omega
              rw [List.getElem?_take_of_lt hji] at hj
              simp [dstOf, hj, hd]
        obtain ⟨hd, hbn, hcase⟩ := hOK
        rcases hcase with ⟨hw, hstep⟩ | ⟨hw, hx⟩
        · rw [if_pos (wantedA_spec hw I.fr rfl)]
          refine (hstep T).wp I.rel I.fr ?_
          intro x v H' σ' w' ⟨e1, e2⟩ _ hrel hrv hev
          subst e1; subst e2
          exact go _ v E T σ' w' I.end_ (hEno (by omega)) (fun _ _ h => h) (hlow (by omega)) (fun _ => hxi) (fun h => by omega) hrel hrv hev hd
        · rw [if_neg (by rw [wantedA_spec hw I.fr rfl]; simp)]
          refine ⟨fun f _ => trivial, go X[i] undef E T σ w I.end_ (hEno (by omega)) (fun _ _ h => h) (hlow (by omega)) (fun _ => hxi) (fun h => by omega) I.rel (by rw [hx]; exact .tup #[] rfl (by simp)) (Ev.refl (Nat.le_refl _)) hd⟩
      · by_cases hi2 : i < p
        · -- an allocation
          obtain ⟨⟨t, ht⟩, hg, s, hs⟩ := hok.alloc i o ho (by omega) hi2
          obtain ⟨z, hz, hzs, hd⟩ := haz i o t (by omega) hi2 hol ht
          rw [if_pos (by simp [Region.wanted, hg])]
          have hstep : aOp1 C o (after l.toArray env0 tr) (app H T) fun x H' => x = .ptr (app H T).n 0 ∧ H' = (app H T).new (.cells (zs i)) := by
            unfold aOp1
            rw [ht, hzs]
            simp only [stepOp, hz]
            exact ⟨hd, rfl, rfl⟩
          refine hstep.wp I.rel I.fr ?_
          intro x v H' σ' w' ⟨e1, e2⟩ _ hrel hrv hev
          subst e1; subst e2
          have hTl : T.length = E.length := by rw [I.t]; simp
          have happ : (app H T).new (.cells (zs i)) = app H (T ++ [.cells (zs i)]) := by rw [new_app, app_app]
          rw [happ] at hrel hrv hev
          have hrow : row l.toArray p p2 zs fs (i :: tr.map (·.1)) i = zs i := by
            rw [row_low hi2]
            unfold row
            cases htg : tgt l.toArray p p2 i with
            | none => rfl
            | some i' =>
              obtain ⟨g1, g2, s', g3, g4⟩ := tgt_some htg
              have hni' : i' ∉ tr.map (·.1) := fun hmem => by
                obtain ⟨_, _, t', s2, v', j', u', hop', _, hj2, hj3, hw', _⟩ := hok.fill i' l[i'] (by first | (simp; done) | (simp; omega)) g1 g2
                have : stSlot l.toArray i' = some s2 := by simp [stSlot, show i' < l.length by omega, hop']
                obtain rfl : s2 = s' := by rw [this] at g3; exact Option.some.inj g3
                have hds : o.dst = some s2 := by rw [← hdst]; exact g4
                have : j' = i := hok.dst i o j' s2 ho hi2 hj2 hds hj3
                subst this
                obtain ⟨e, he, hb⟩ := Array.any_eq_true'.1 hw'
                simp only [Bool.and_eq_true, beq_iff_eq] at hb
                have := I.cl i' _ (by first | (simp; done) | (simp; omega)) hmem e he hb.1
                rw [hb.2] at this
                exact hni this
              simp [hni']
          refine go _ v (E ++ [i]) (T ++ [.cells (zs i)]) σ' w' (List.nodup_append.2 ⟨I.end_, by simp, fun j hj k hk e => ?_⟩) (fun j => ?_) (fun k j hk => by rw [List.getElem?_append_left (List.getElem?_eq_some_iff.1 hk).1]; exact hk) (by rw [List.map_append, ← hlow hi2, List.map_cons, List.map_nil, hrow]) (fun h => absurd h hi1) (fun _ _ => ⟨E.length, by simp, by rw [app_n', hTl]⟩) hrel hrv hev hd
          · simp only [List.mem_singleton] at hk
            subst hk; subst e
            exact hni ((I.eiff _).1 hj).2.2
          · rw [List.mem_append, List.mem_singleton, I.eiff]
            constructor
            · rintro (h | rfl)
              · exact ⟨h.1, h.2.1, .inr h.2.2⟩
              · exact ⟨by omega, hi2, .inl rfl⟩
            · rintro ⟨h1, h2, rfl | h3⟩
              · exact .inr rfl
              · exact .inl ⟨h1, h2, h3⟩
        · -- a store
          obtain ⟨hg, hdn, t, s, vv, j, u, hopi, hj1, hj2, hj3, hj4, hu1, hu2, hu3, huniq⟩ := hok.fill i o ho (by omega) hip
          have hsti : stSlot l.toArray i = some s := by simp [stSlot, hil, show l[i] = o from (List.getElem?_eq_some_iff.1 hol).2, hopi]
          rw [if_pos (by simp [Region.wanted, hg])]
          have hnofill : ∀ k z s', (k, z) ∈ tr → dstOf l.toArray k = some s' → k < p := fun k z s' hk hd => by
            refine Classical.byContradiction fun hkp => ?_
            have hk2 := I.lt k (List.mem_map.2 ⟨_, hk, rfl⟩)
            obtain ⟨_, hnone, _⟩ := hok.fill k l[k] (by first | (simp; done) | (simp; omega)) (by omega) hk2
            simp [dstOf, show k < l.length by omega, hnone] at hd
          have hget : ∀ k s', k < p → dstOf l.toArray k = some s' → waitsFor o k = true → ∃ x, (k, x) ∈ tr ∧ after l.toArray env0 tr s' = x := fun k s' hk hd hw => by
            obtain ⟨⟨k', x⟩, hkx, rfl⟩ := List.mem_map.1 (hwt k (by omega) hw)
            have hok' : l[k']? = some l[k'] := by first | (simp; done) | (simp; omega)
            have hdd : l[k'].dst = some s' := by simpa [dstOf, hok'] using hd
            exact ⟨x, hkx, after_get hkx hd (fun k2 z hk2 hdk => hok.dst k' l[k'] k2 s' (by first | (simp; done) | (simp; omega)) hk (hnofill k2 z s' hk2 hdk) hdd hdk) I.nd⟩
          obtain ⟨xj, hxj, hsj⟩ := hget j s hj2 hj3 hj4
          obtain ⟨xu, hxu, hsu⟩ := hget u vv (by omega) hu2 hu3
          obtain ⟨k, hk, rfl⟩ := I.al j xj hxj hj1 hj2
          have hXu := I.q u xu hxu hu1
          obtain ⟨xs, a1, a2, a3, a4, a5⟩ := hfl i o t s vv j u xu (by omega) hip hol hopi hj1 hj2 hj3 hu1 hu2 hXu
          have htg : tgt l.toArray p p2 j = some i := tgt_of hok (by omega) hip hsti hj3
          have hkE := (List.getElem?_eq_some_iff.1 hk).1
          have hTk : T[k]? = some (.cells (zs j)) := by
            rw [I.t, List.getElem?_map, hk]
            simp [row, htg, hni]
          have hkT : k < T.length := (List.getElem?_eq_some_iff.1 hTk).1
          have hstep : aOp1 C o (after l.toArray env0 tr) (app H T) fun x H' => x = .top ∧ H' = app H (T.set k (.cells (fs i))) := by
            unfold aOp1
            rw [hopi]
            simp only [stepOp, aev_tmp, aevT_tmp, hsj, hsu]
            unfold aStore
            simp only [app_at, hTk, a1]
            rw [if_pos ⟨a2, a3, a4⟩, ← a5, app_set_hi hkT]
            exact ⟨hdn, rfl, rfl⟩
          refine hstep.wp I.rel I.fr ?_
          intro x v H' σ' w' ⟨e1, e2⟩ _ hrel hrv hev
          subst e1; subst e2
          refine go _ v E (T.set k (.cells (fs i))) σ' w' I.end_ (hEno (by omega)) (fun _ _ h => h) ?_ (fun h => absurd h hi1) (fun _ h => absurd h hi2) hrel hrv hev (by rw [hdn]; rfl)
          refine List.ext_getElem (by rw [List.length_set, I.t]; simp) fun k' h1 h2 => ?_
          rw [List.getElem_set, List.getElem_map]
          have hk'E : k' < E.length := by simpa using h2
          split
          · rename_i e
            subst e
            have : E[k] = j := (List.getElem?_eq_some_iff.1 hk).2
            rw [this]
            simp [row, htg]
          · rename_i e
            have hk'T : T[k']? = some (.cells (row l.toArray p p2 zs fs (tr.map (·.1)) E[k'])) := by rw [I.t, List.getElem?_map, List.getElem?_eq_getElem hk'E]; rfl
            have hT' := (List.getElem?_eq_some_iff.1 hk'T).2
            rw [hT']
            have hrr : ∀ J, J = E[k'] → row l.toArray p p2 zs fs (i :: tr.map (·.1)) J = row l.toArray p p2 zs fs (tr.map (·.1)) J := fun J hJ => by
              unfold row
              cases htg' : tgt l.toArray p p2 J with
              | none => rfl
              | some i' =>
                have hne : i' ≠ i := fun e' => by
                  subst e'
                  obtain ⟨_, _, s', g3, g4⟩ := tgt_some htg'
                  rw [hsti] at g3
                  cases g3
                  have hEk := (I.eiff J).1 (by rw [hJ]; exact List.getElem_mem hk'E)
                  have hjE : J = j := by
                    have hjl : j < l.length := by omega
                    have hdd : l[j].dst = some s := by simpa [dstOf, hjl] using hj3
                    exact hok.dst j l[j] J s (by simp [hjl]) hj2 hEk.2.1 hdd g4
                  have hEj : E[k] = j := (List.getElem?_eq_some_iff.1 hk).2
                  exact e ((List.getElem_inj I.end_).1 (hEj.trans (hjE.symm.trans hJ)))
                by_cases hm : i' ∈ tr.map (·.1)
                · exact (if_pos (List.mem_cons_of_mem _ hm)).trans (if_pos hm).symm
                · exact (if_neg (fun h => (List.mem_cons.1 h).elim hne hm)).trans (if_neg hm).symm
            rw [hrr _ rfl]

def finRow (ops : Array Oper) (p p2 : Nat) (zs fs : Nat → List AV) (j : Nat) : List AV := match tgt ops p p2 j with
  | some i => fs i
  | none => zs j

theorem row_fin {ops : Array Oper} {tr : List Nat} (h : ∀ i, i < p2 → i ∈ tr) (j : Nat) : row ops p p2 zs fs tr j = finRow ops p p2 zs fs j := by
  unfold row finRow
  cases ht : tgt ops p p2 j with
  | none => rfl
  | some i => exact if_pos (h i (tgt_some ht).2.1)

theorem phase2_end (hok : OkF l.toArray p1 p p2) (hop : ∀ (i : Nat) o x, i < p1 → l[i]? = some o → X[i]? = some x → BelowN H.n x) (hX : X.length = p1) (hb0 : ∀ s, BelowN H.n (env0 s)) (hbel : Bel H.n H)
    (hbr : ∀ j, p1 ≤ j → j < p → ∀ y ∈ finRow l.toArray p p2 zs fs j, BelowN H.n y)
    {tr : List (Nat × AV)} {E : List Nat} {T : List AB} {listed : Array Bool} {σ : Gh} {w : World} {a : Act} (I : Inv2 C l p1 p p2 X zs fs env0 H σs ws m tr [] E T listed σ w a) :
    ∃ σ', Rel C.G σ' (app H ((List.range (p - p1)).map fun j => .cells (finRow l.toArray p p2 zs fs (p1 + j)))) w ∧
      RelF C.nt m σ' (app H ((List.range (p - p1)).map fun j => .cells (finRow l.toArray p p2 zs fs (p1 + j)))) w (puts (l.take p) (X ++ (List.range (p - p1)).map fun j => .ptr (H.n + j) 0) env0) a ∧
      Ev H.n σs H ws σ' (app H ((List.range (p - p1)).map fun j => .cells (finRow l.toArray p p2 zs fs (p1 + j)))) w ∧ listed = ((List.range l.length).map fun i => decide (i < p2)).toArray := by
  have hpl : p2 ≤ l.length := by simpa using hok.size
  have hle := hok.le
  have hle2 := hok.le2
  have hin : ∀ i, i < p2 → i ∈ tr.map (·.1) := fun i hi => Classical.byContradiction fun h => by
    have := (I.rem i).2 ⟨hi, h⟩
    cases this
  have hEm : ∀ i, i ∈ E ↔ p1 ≤ i ∧ i < p1 + (p - p1) := fun i => by
    rw [I.eiff]
    exact ⟨fun h => ⟨h.1, by omega⟩, fun h => ⟨h.1, by omega, hin i (by omega)⟩⟩
  have hEl : E.length = p - p1 := nodup_len I.end_ hEm
  have hT : T = E.map fun j => .cells (finRow l.toArray p p2 zs fs j) := by rw [I.t]; exact List.map_congr_left fun j _ => by rw [row_fin hin]
  have hP := perm_of (H := H) (σ := σ) (p := p1) (E := E) (T := T) (T' := (List.range (p - p1)).map fun j => .cells (finRow l.toArray p p2 zs fs (p1 + j))) I.end_ (by rw [hEl]; exact hEm) (by rw [hT]; simp) (by simp [hEl]) (fun i hi => by
    have hix : E.idxOf (p1 + i) < E.length := List.idxOf_lt_length_iff.2 ((hEm _).2 ⟨by omega, by omega⟩)
    rw [hT, List.getElem?_map, List.getElem?_map, List.getElem?_eq_getElem hix, List.getElem_idxOf hix]
    simp [hEl ▸ hi]) (fun x hx y hy => by
      rw [hT] at hx
      obtain ⟨i, hi, rfl⟩ := List.mem_map.1 hx
      have := (hEm i).1 hi
      exact hbr i this.1 (by omega) y hy)
  have hbel' : Bel H.n (app H T) := fun b x hb hf y hy => hbel b x hb (by rwa [app_f hb] at hf) y hy
  have hnofill : ∀ k z s', (k, z) ∈ tr → dstOf l.toArray k = some s' → k < p := fun k z s' hk hd => by
    refine Classical.byContradiction fun hkp => ?_
    have hk2 := I.lt k (List.mem_map.2 ⟨_, hk, rfl⟩)
    obtain ⟨_, hnone, _⟩ := hok.fill k l[k] (by first | (simp; done) | (simp; omega)) (by omega) hk2
    simp [dstOf, show k < l.length by omega, hnone] at hd
  refine ⟨_, hP.rel hbel' I.rel, ⟨?_, I.fr.size, fun s => ?_⟩, I.ev.trans hP.ev (Nat.le_refl _), ?_⟩
  · obtain ⟨ms, q1, q2, q3⟩ := I.fr.defers
    exact ⟨ms, q1, q2, fun g hg => let ⟨a1, a2, a3⟩ := q3 g hg; ⟨a1, a2, hP.free a3⟩⟩
  · have hs := I.fr.slot s
    have hget : ∀ (j : Nat) o', (l.take p)[j]? = some o' → j < p ∧ dstOf l.toArray j = o'.dst := fun j o' hj => by
      have hjp : j < p := by have := (List.getElem?_eq_some_iff.1 hj).1; simp at this; omega
      rw [List.getElem?_take_of_lt hjp] at hj
      exact ⟨hjp, by simp [dstOf, hj]⟩
    by_cases hw : ∃ j, j < p ∧ dstOf l.toArray j = some s
    · obtain ⟨j, hj, hdj⟩ := hw
      obtain ⟨⟨j', x⟩, hjx, rfl⟩ := List.mem_map.1 (hin j (by omega))
      have hjl : j' < l.length := by have : j' < p := hj; omega
      have hoj : l[j']? = some l[j'] := by simp [hjl]
      have hdd : l[j'].dst = some s := by simpa [dstOf, hoj] using hdj
      rw [after_get hjx hdj (fun i z hi hdi => hok.dst j' l[j'] i s (by simp [hjl]) hj (hnofill i z s hi hdi) hdd hdi) I.nd] at hs
      have huniq : ∀ (i : Nat) o', (l.take p)[i]? = some o' → o'.dst = some s → i = j' := fun i o' hi hdi => by
        obtain ⟨h1, h2⟩ := hget i o' hi
        exact hok.dst j' l[j'] i s (by simp [hjl]) hj h1 hdd (h2.trans hdi)
      have hoj' : (l.take p)[j']? = some l[j'] := by rw [List.getElem?_take_of_lt hj]; exact hoj
      by_cases h1 : j' < p1
      · have hxj := I.q j' x hjx h1
        rw [puts_get (x := x) hoj' (by rw [List.getElem?_append_left (by omega)]; exact hxj) hdd huniq]
        exact hP.relV hs (hop j' _ x h1 hoj hxj)
      · obtain ⟨kk, hk, rfl⟩ := I.al j' x hjx (by omega) hj
        rw [puts_get (x := .ptr (H.n + (j' - p1)) 0) hoj' (by have hj2 : j' < p := hj; rw [List.getElem?_append_right (by omega), hX, List.getElem?_map, List.getElem?_range (by omega)]; rfl) hdd huniq]
        generalize a.tmps.getD s undef = v at hs
        have hkl := (List.getElem?_eq_some_iff.1 hk).1
        have hidx : E.idxOf j' = kk := by
          have hix : E.idxOf j' < E.length := List.idxOf_lt_length_iff.2 (List.mem_of_getElem? hk)
          refine (List.getElem_inj I.end_ (h₀ := hix) (h₁ := hkl)).1 ?_
          rw [List.getElem_idxOf hix]
          exact (List.getElem?_eq_some_iff.1 hk).2.symm
        have hperm : permOf H.n p1 E (H.n + (j' - p1)) = H.n + kk := by
          have hj2 : j' < p := hj
          unfold permOf
          rw [if_pos (by omega), Nat.add_sub_cancel_left, show p1 + (j' - p1) = j' by omega, hidx]
        cases hs with | ptr hb =>
        rw [← hperm]
        exact .ptr (σ := ⟨fun b => σ.c (permOf H.n p1 E b), fun b => σ.t (permOf H.n p1 E b)⟩) (by rw [app_n', List.length_map, List.length_range]; have : j' < p := hj; omega)
    · rw [after_none fun j y hj hd => hw ⟨j, hnofill j y s hj hd, hd⟩] at hs
      rw [puts_none fun j o' hj hd => hw ⟨j, (hget j o' hj).1, (hget j o' hj).2.trans hd⟩]
      exact hP.relV hs (hb0 s)
  · refine Array.ext (by rw [I.lsz]; simp) fun i h1 h2 => ?_
    rw [I.lsz] at h1
    have := I.lget i h1
    rw [Array.getD_eq_getD_getElem?, Array.getElem?_eq_getElem (by rw [I.lsz]; exact h1)] at this
    simp only [Option.getD_some] at this
    rw [this]
    simp only [List.getElem_toArray, List.getElem_map, List.getElem_range]
    rw [decide_eq_decide]
    exact ⟨fun h => I.lt i h, hin i⟩

/-- What the store i leaves in its row. -/
def fillV (l : List Oper) (p1 p : Nat) (zs : Nat → List AV) (env : Env) (i : Nat) : List AV := match l[i]? with
  | some o => (match o.op with
    | .store _ (.tmp s) (.tmp v) => setAt (zs (((List.range p).find? fun j => decide (p1 ≤ j) && dstOf l.toArray j == some s).getD 0)) 0 ((acells (env v)).getD [])
    | _ => [])
  | none => []

theorem fillV_eq (hok : OkF l.toArray p1 p p2) {env : Env} {i j : Nat} {o : Oper} {t : TypeId} {s v : Nat} {xs : List AV} (ho : l[i]? = some o) (hop : o.op = .store t (.tmp s) (.tmp v)) (h1 : p1 ≤ j) (h2 : j < p) (hj : dstOf l.toArray j = some s) (hx : acells (env v) = some xs) :
    fillV l p1 p zs env i = setAt (zs j) 0 xs := by
  unfold fillV
  simp only [ho, hop, hx, Option.getD_some]
  have : (List.range p).find? (fun j => decide (p1 ≤ j) && dstOf l.toArray j == some s) = some j := by
    cases hf : (List.range p).find? (fun j => decide (p1 ≤ j) && dstOf l.toArray j == some s) with
    | none =>
      have := List.find?_eq_none.1 hf j (by simpa using h2)
      simp [h1, hj] at this
    | some j' =>
      have g1 := List.find?_some hf
      have g2 := List.mem_of_find?_eq_some hf
      simp only [Bool.and_eq_true, decide_eq_true_eq, beq_iff_eq] at g1
      have hpl : p2 ≤ l.length := by simpa using hok.size
      have hle2 := hok.le2
      have hjl : j < l.length := by omega
      rw [hok.dst j l[j] j' s (by simp [hjl]) h2 (by simpa using g2) (by simpa [dstOf, hjl] using hj) g1.2]
  rw [this, Option.getD_some]

theorem fills_run {q : Nat → Bool} {k : List Item} {env : Env} {R : AV → Hp → Prop} (hok : OkF l.toArray p1 p p2) (henv : ∀ j s, p1 ≤ j → j < p → dstOf l.toArray j = some s → env s = .ptr (H.n + (j - p1)) 0) :
    ∀ (c i : Nat), i + c = p2 → p ≤ i → runD C l.toArray q i (l.drop i) k env (app H ((List.range (p - p1)).map fun j => .cells (row l.toArray p p2 zs (fillV l p1 p zs env) (List.range i) (p1 + j)))) R →
      (∀ (i' : Nat) o t s v j, i ≤ i' → i' < p2 → l[i']? = some o → o.op = .store t (.tmp s) (.tmp v) → p1 ≤ j → j < p → dstOf l.toArray j = some s → ∃ xs, acells (env v) = some xs ∧ (C.P.underlying t).isSome ∧ C.P.cellsOf t = xs.length ∧ 0 + xs.length ≤ (zs j).length) ∧
      runD C l.toArray q p2 (l.drop p2) k env (app H ((List.range (p - p1)).map fun j => .cells (finRow l.toArray p p2 zs (fillV l p1 p zs env) (p1 + j)))) R
  | 0, i, hi, hp, h => by
    have : i = p2 := by omega
    subst this
    refine ⟨fun i' o t s v j h1 h2 => by omega, ?_⟩
    have e : ((List.range (p - p1)).map fun j => AB.cells (row l.toArray p i zs (fillV l p1 p zs env) (List.range i) (p1 + j))) = (List.range (p - p1)).map fun j => .cells (finRow l.toArray p i zs (fillV l p1 p zs env) (p1 + j)) :=
      List.map_congr_left fun j _ => by rw [row_fin fun i hi => by simpa using hi]
    rw [e] at h
    exact h
  | c + 1, i, hi, hp, h => by
    have hpl : p2 ≤ l.length := by simpa using hok.size
    have hil : i < l.length := by omega
    have hol : l[i]? = some l[i] := by simp [hil]
    obtain ⟨hg, hdn, t, s, v, j, u, hop, hj1, hj2, hj3, _, _, _, _, huniq⟩ := hok.fill i l[i] (by simp [hil]) hp (by omega)
    have hsti : stSlot l.toArray i = some s := by simp [stSlot, hil, hop]
    have htg : tgt l.toArray p p2 j = some i := tgt_of hok hp (by omega) hsti hj3
    rw [List.drop_eq_getElem_cons hil] at h
    unfold runD at h
    rw [hg, show wantedA C.nt l.toArray none env = some true from rfl] at h
    simp only [hop, stepOp, aev_tmp, aevT_tmp, henv j s hj1 hj2 hj3] at h
    have hrow : ((List.range (p - p1)).map fun j => AB.cells (row l.toArray p p2 zs (fillV l p1 p zs env) (List.range i) (p1 + j)))[j - p1]? = some (.cells (zs j)) := by
      rw [List.getElem?_map, List.getElem?_range (by omega), Option.map_some, show p1 + (j - p1) = j by omega]
      simp [row, htg]
    unfold aStore at h
    simp only [app_at, hrow] at h
    cases hx : acells (env v) with
    | none => rw [hx] at h; exact h.elim
    | some xs =>
      rw [hx] at h
      simp only at h
      by_cases hc : (C.P.underlying t).isSome = true ∧ C.P.cellsOf t = xs.length ∧ 0 + xs.length ≤ (zs j).length
      · rw [if_pos hc] at h
        obtain ⟨_, _, h2⟩ := h
        rw [app_set_hi (by simp; omega)] at h2
        have hrows : ((List.range (p - p1)).map fun j => AB.cells (row l.toArray p p2 zs (fillV l p1 p zs env) (List.range i) (p1 + j))).set (j - p1) (.cells (setAt (zs j) 0 xs)) = (List.range (p - p1)).map fun j => .cells (row l.toArray p p2 zs (fillV l p1 p zs env) (List.range (i + 1)) (p1 + j)) := by
          refine List.ext_getElem (by simp) fun k' h1 h2 => ?_
          have hk' : k' < p - p1 := by simpa using h2
          rw [List.getElem_set]
          split
          · rename_i e
            subst e
            simp only [List.getElem_map, List.getElem_range, show p1 + (j - p1) = j by omega]
            rw [show row l.toArray p p2 zs (fillV l p1 p zs env) (List.range (i + 1)) j = fillV l p1 p zs env i by simp [row, htg], fillV_eq hok hol hop hj1 hj2 hj3 hx]
          · rename_i e
            simp only [List.getElem_map, List.getElem_range]
            congr 1
            unfold row
            cases htg' : tgt l.toArray p p2 (p1 + k') with
            | none => rfl
            | some i' =>
              have hne : i' ≠ i := fun e' => by
                subst e'
                obtain ⟨_, _, s', g3, g4⟩ := tgt_some htg'
                rw [hsti] at g3
                cases g3
                have hjl : j < l.length := by have := hok.le2; omega
                have := hok.dst j l[j] (p1 + k') s (by simp [hjl]) hj2 (by omega) (by simpa [dstOf, hjl] using hj3) g4
                omega
              by_cases hm : i' ∈ List.range i
              · exact (if_pos hm).trans (if_pos (by simp at hm ⊢; omega)).symm
              · exact (if_neg hm).trans (if_neg (by simp at hm ⊢; omega)).symm
        rw [hrows] at h2
        obtain ⟨g1, g2⟩ := fills_run hok henv c (i + 1) (by omega) (by omega) h2
        refine ⟨fun i' o' t' s' v' j' a1 a2 a3 a4 a5 a6 a7 => ?_, g2⟩
        by_cases hii : i' = i
        · subst hii
          rw [hol] at a3; cases a3
          rw [hop] at a4; cases a4
          have hjl : j < l.length := by have := hok.le2; omega
          have : j' = j := hok.dst j l[j] j' s (by simp [hjl]) hj2 a6 (by simpa [dstOf, hjl] using hj3) a7
          subst this
          exact ⟨xs, hx, hc.1, hc.2.1, hc.2.2⟩
        · exact g1 i' o' t' s' v' j' (by omega) a2 a3 a4 a5 a6 a7
      · rw [if_neg hc] at h; exact h.elim
end phase


section openF
variable {C : Cx} {k : List Item} {env : Env} {H : Hp} {R : AV → Hp → Prop}

/-- A region whose order is open: quiet operations, rows of its own and stores of the results into them, in any order, then the rest. -/
theorem ARun.openF {id : Nat} {l : List Oper} (p1 p p2 : Nat) (loud : List Nat) (hm : C.P.follows .mixedOrders = true) (hok : okF l.toArray p1 p p2 = true)
    (hB : lexQ (isLoud loud) l.toArray (l.length - p2) p2 ((List.range l.length).map fun i => decide (i < p2)).toArray = true)
    (h : runQ C l.toArray (isLoud loud) (l.take p1) p1 (l.drop p1) k env H R) : ARun C (.code (.region id l.toArray true) :: k) env H R :=
  .of_wp fun σ w a m hpre => by
    obtain ⟨X, hX, hK, hop⟩ := runE_vals h
    have hokE := okF_spec hok
    have hle := hokE.le
    have hle2 := hokE.le2
    have hpl : p2 ≤ l.length := by simpa using hokE.size
    rw [List.length_take, Nat.min_eq_left (by omega)] at hX
    have hdrop : l.drop p1 = (l.drop p1).take (p - p1) ++ l.drop p := by
      conv => lhs; rw [← List.take_append_drop (p - p1) (l.drop p1)]
      rw [List.drop_drop, show p1 + (p - p1) = p by omega]
    have hgd : ∀ (i : Nat) o, ((l.drop p1).take (p - p1))[i]? = some o → i < p - p1 ∧ l[p1 + i]? = some o := fun i o hi => by
      have hlt : i < p - p1 := by have := (List.getElem?_eq_some_iff.1 hi).1; simp at this; omega
      rw [List.getElem?_take_of_lt hlt, List.getElem?_drop] at hi
      exact ⟨hlt, hi⟩
    have hlen : ((l.drop p1).take (p - p1)).length = p - p1 := by rw [List.length_take, List.length_drop]; omega
    rw [hdrop] at hK
    obtain ⟨Z, z1, z2, z3⟩ := allocs_run _ p1 _ H (fun o ho => by
      obtain ⟨i, hi⟩ := List.getElem?_of_mem ho
      obtain ⟨h1, h2⟩ := hgd i o hi
      exact hokE.alloc (p1 + i) o (by simpa using h2) (by omega) (by omega)) hK
    rw [hlen] at z1 z3
    have hop' : ∀ (i : Nat) o x, i < p1 → l[i]? = some o → X[i]? = some x → OpOK C l.toArray o (puts (l.take i) (X.take i) env) H x := fun i o x hi ho hx => by
      have := hop i o x (by rw [List.getElem?_take_of_lt hi]; exact ho) hx
      rwa [List.take_take, Nat.min_eq_left (by omega)] at this
    generalize hzs : (fun i => ((Z[i - p1]?).getD []).map AV.p) = zs
    generalize henvF : puts (l.take p) (X ++ (List.range (p - p1)).map fun j => .ptr (H.n + j) 0) env = envF
    have hput : ∀ j x s, j < p → (X ++ (List.range (p - p1)).map fun j => AV.ptr (H.n + j) 0)[j]? = some x → dstOf l.toArray j = some s → envF s = x := fun j x s hj hx hd => by
      have hjl : j < l.length := by omega
      rw [← henvF]
      refine puts_get (o := l[j]) (by rw [List.getElem?_take_of_lt hj]; simp [hjl]) hx (by simpa [dstOf, hjl] using hd) fun j' o' hj' hd' => ?_
      have hjp : j' < p := by have := (List.getElem?_eq_some_iff.1 hj').1; simp at this; omega
      rw [List.getElem?_take_of_lt hjp] at hj'
      exact hokE.dst j l[j] j' s (by simp [hjl]) hj hjp (by simpa [dstOf, hjl] using hd) (by simp [dstOf, hj', hd'])
    have henv : ∀ j s, p1 ≤ j → j < p → dstOf l.toArray j = some s → envF s = .ptr (H.n + (j - p1)) 0 := fun j s h1 h2 hd =>
      hput j _ s h2 (by rw [List.getElem?_append_right (by omega), hX, List.getElem?_map, List.getElem?_range (by omega)]; rfl) hd
    have hrows : ((List.range (p - p1)).map fun j => AB.cells (row l.toArray p p2 zs (fillV l p1 p zs envF) (List.range p) (p1 + j))) = Z.map fun z => .cells (z.map .p) := by
      refine List.ext_getElem (by simp [z1]) fun i h1 h2 => ?_
      have hz : i < Z.length := by simpa using h2
      have : row l.toArray p p2 zs (fillV l p1 p zs envF) (List.range p) (p1 + i) = zs (p1 + i) := by
        unfold row
        cases htg : tgt l.toArray p p2 (p1 + i) with
        | none => rfl
        | some i' => exact if_neg (by have := (tgt_some htg).1; simp; omega)
      simp only [List.getElem_map, List.getElem_range, this]
      rw [← hzs]
      simp [hz]
    have hrun0 : runD C l.toArray (isLoud loud) p (l.drop p) k envF (app H ((List.range (p - p1)).map fun j => .cells (row l.toArray p p2 zs (fillV l p1 p zs envF) (List.range p) (p1 + j)))) R := by
      rw [hrows, ← henvF]
      have e : l.take p = l.take p1 ++ (l.drop p1).take (p - p1) := by
        conv => lhs; rw [show p = p1 + (p - p1) by omega, List.take_add]
      rw [e, puts_append (by rw [hX, List.length_take]; omega)]
      rw [show p1 + (p - p1) = p by omega] at z3
      exact z3
    obtain ⟨f1, f2⟩ := fills_run (C := C) (zs := zs) hokE henv (p2 - p) p (by omega) (Nat.le_refl _) hrun0
    have hXF : ∀ u v x, u < p1 → dstOf l.toArray u = some v → X[u]? = some x → envF v = x := fun u v x hu hd hx => hput u x v (by omega) (by rw [List.getElem?_append_left (by omega)]; exact hx) hd
    have hfl : ∀ (i : Nat) o t s v j u x, p ≤ i → i < p2 → l[i]? = some o → o.op = .store t (.tmp s) (.tmp v) → p1 ≤ j → j < p → dstOf l.toArray j = some s → u < p1 → dstOf l.toArray u = some v → X[u]? = some x →
        ∃ xs, acells x = some xs ∧ (C.P.underlying t).isSome ∧ C.P.cellsOf t = xs.length ∧ 0 + xs.length ≤ (zs j).length ∧ fillV l p1 p zs envF i = setAt (zs j) 0 xs := fun i o t s v j u x h1 h2 ho hp h3 h4 h5 h6 h7 h8 => by
      obtain ⟨xs, b1, b2, b3, b4⟩ := f1 i o t s v j h1 h2 ho hp h3 h4 h5
      exact ⟨xs, by rw [← hXF u v x h6 h7 h8]; exact b1, b2, b3, b4, fillV_eq hokE ho hp h3 h4 h5 b1⟩
    have hbz : ∀ j, ∀ y ∈ zs j, BelowN H.n y := fun j y hy => by
      rw [← hzs] at hy
      obtain ⟨z, _, rfl⟩ := List.mem_map.1 hy
      exact .p z
    have hbr : ∀ j, p1 ≤ j → j < p → ∀ y ∈ finRow l.toArray p p2 zs (fillV l p1 p zs envF) j, BelowN H.n y := fun j h1 h2 y hy => by
      unfold finRow at hy
      cases htg : tgt l.toArray p p2 j with
      | none => rw [htg] at hy; exact hbz j y hy
      | some i =>
        rw [htg] at hy
        obtain ⟨c1, c2, s, c3, c4⟩ := tgt_some htg
        have hil : i < l.length := by omega
        obtain ⟨_, _, t, s', v, j', u, hopi, j1, j2, j3, _, u1, u2, _, _⟩ := hokE.fill i l[i] (by simp [hil]) c1 c2
        have : stSlot l.toArray i = some s' := by simp [stSlot, hil, hopi]
        obtain rfl : s' = s := by rw [this] at c3; exact Option.some.inj c3
        have hxu : X[u]? = some X[u] := by simp [hX, u1]
        obtain ⟨xs, b1, _, _, b4, b5⟩ := hfl i l[i] t s' v j u X[u] c1 c2 (by simp [hil]) hopi h1 h2 c4 u1 u2 hxu
        simp only [b5] at hy
        rcases setAt_mem b4 hy with hy | hy
        · exact hbz j y hy
        · exact acells_below b1 ((hop' u l[u] X[u] u1 (by first | (simp; done) | (simp; omega)) hxu).2.1) y hy
    obtain ⟨g1, g2⟩ := rel_drew hpre.rel
    refine wpIn_region_any hm ?_
    rw [List.size_toArray]
    have key := phase2 (C := C) (l := l) (p1 := p1) (p := p) (p2 := p2) (X := X) (zs := zs) (fs := fillV l p1 p zs envF) (env0 := env) (H := H) (σs := σ) (ws := w) (m := m) (ro := C.round.map σ.c)
      (R1 := fun e a' w' => e = .normal ∧ ∃ env' H' σ', ARun C k env' H' R ∧ Pre C σ' H' w' env' a' m ∧ Ev H.n σ H w σ' H' w') hokE hop' hX
      (fun i o t h1 h2 ho ht => by
        obtain ⟨z, q1, q2, q3⟩ := z2 (i - p1) o t (by rw [List.getElem?_take_of_lt (by omega), List.getElem?_drop, show p1 + (i - p1) = i by omega]; exact ho) ht
        exact ⟨z, q2, by rw [← hzs]; simp [q1], q3⟩) hfl
      (fun tr E T listed σ1 w1 a1 I => by
        obtain ⟨σ2, r1, r2, r3, r4⟩ := phase2_end hokE (fun i o x h1 h2 h3 => (hop' i o x h1 h2 h3).2.1) hX (fun s => (hpre.fr.slot s).belowN) hpre.rel.bel hbr I
        rw [henvF] at r2
        subst r4
        have hla : ∀ j, (l.drop p2)[j]? = l.toArray[p2 + j]? := fun j => by rw [List.getElem?_drop]; simp
        have hA := anyA_lex (C := C) (ops := l.toArray) (Q := fun env' H' => ARun C k env' H' R) (l.drop p2) p2 _ _ _ hla (by rw [List.length_drop]; exact hB) (lexL_of_runD hla f2)
        rw [List.length_drop] at hA
        exact anyA_sound (n1 := H.n) (m := m) (l.length - p2) _ _ _ σ2 w1 a1 hA r1 r2 (by rw [app_n']; omega) fun env' H' σ' w' a' b1 b2 b3 b4 => ⟨rfl, env', H', σ', b1, hpre.go b2 b3 (r3.trans b4 (Nat.le_refl _)), r3.trans b4 (Nat.le_refl _)⟩)
      p2 [] (List.range p2) [] [] (Array.replicate l.length false) σ w.drew a (by simp)
      ⟨List.nodup_nil, List.nodup_range, fun i => by simp, fun i h => by simp at h, fun i x h => by simp at h, fun i x h => by simp at h, List.nodup_nil, fun i => by simp, rfl, fun k o _ hk => by simp at hk, by simp, fun i hi => by simp [Array.getD_eq_getD_getElem?, hi], g1, hpre.fr.mono g2, g2⟩
    rw [show p2 + (l.length - p2) = l.length by omega] at key
    exact key
end openF

end Go.AL
