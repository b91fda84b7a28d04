/-
  Rows of encoded things: reading, writing and slicing them; loops by a state; small numbers.
  Conditions: none; nothing here speaks of one program.
-/
import Derived.Test.YtkpeknkpleocgaaDoorEngO
set_option linter.unusedSimpArgs false
set_option linter.unusedVariables false
namespace Go.AL
open Go

/-- A loop, by a state that the relation and the measure speak of. -/
theorem ARun.iter {C : Cx} {k : List Item} {env : Env} {H : Hp} {R : AV → Hp → Prop} {c : Code} {S : Type} (I : S → Env → Hp → Prop) (μ : S → Nat) (s0 : S) (h0 : I s0 env H)
    (round : ∀ s env H, I s env H → (∀ s' env' H', I s' env' H' → μ s' < μ s → ARun C (.inLoop c :: k) env' H' R) → ARun C (.code c :: .inLoop c :: k) env H R) :
    ARun C (.code (.loop c) :: k) env H R := by
  have key : ∀ n s env H, μ s = n → I s env H → ARun C (.inLoop c :: k) env H R := by
    intro n
    induction n using Nat.strongRecOn with
    | _ n ih =>
      intro s env H hn hI
      exact .inLoop (round s env H hI fun s' env' H' hI' hlt => ih (μ s') (hn ▸ hlt) s' env' H' rfl hI')
  exact .loop (key _ s0 env H rfl h0)

/-- A loop that counts from 'a' to 'n'. -/
theorem ARun.count {C : Cx} {k : List Item} {env : Env} {H : Hp} {R : AV → Hp → Prop} {c : Code} (I : Nat → Env → Hp → Prop) (a n : Nat) (ha : a ≤ n) (h0 : I a env H)
    (last : ∀ env H, I n env H → ARun C (.code c :: .inLoop c :: k) env H R)
    (round : ∀ i env H, a ≤ i → i < n → I i env H → (∀ env' H', I (i + 1) env' H' → ARun C (.inLoop c :: k) env' H' R) → ARun C (.code c :: .inLoop c :: k) env H R) :
    ARun C (.code (.loop c) :: k) env H R :=
  .iter (S := Nat) (fun i env H => a ≤ i ∧ i ≤ n ∧ I i env H) (fun i => n - i) a ⟨Nat.le_refl _, ha, h0⟩ fun i env H ⟨h1, h2, h3⟩ ih => by
    by_cases h : i = n
    · subst h; exact last env H h3
    · exact round i env H h1 (by omega) h3 fun env' H' h' => ih (i + 1) env' H' ⟨by omega, by omega, h'⟩ (by omega)

/-- A full slice becomes the holder's own: it may be appended to. -/
theorem ARun.own {C : Cx} {todo : List Item} {env : Env} {H : Hp} {R : AV → Hp → Prop} (t : Nat) {sz : Nat} {xs : List PV} (ht : env t = .p (.sl true sz xs))
    (h : ARun C todo (env.put (some t) (.sl H.n 0 sz xs)) (H.new (.tail 0)) R) : ARun C todo env H R := by
  intro σ w a b cs m h1 hpre
  obtain ⟨hr, hev⟩ := rel_newTail hpre.rel (w' := w) (Nat.le_refl _) (fun _ _ => rfl) rfl rfl none (fun _ _ _ hh => by cases hh)
  have h4 := hpre.fr.mono hev
  have hf : RelF C.nt m (σ.withT H.n none) (H.new (.tail 0)) w (env.put (some t) (.sl H.n 0 sz xs)) a := by
    refine ⟨h4.defers, h4.size, fun i => ?_⟩
    simp only [Env.put]
    by_cases hi : i = t
    · subst hi
      rw [if_pos rfl]
      have hs := hpre.fr.slot i
      rw [ht] at hs
      generalize a.tmps.getD i undef = v at hs
      cases hs with | p hp =>
      have hp' : RelP w (Stable (σ.withT H.n none) (H.new (.tail 0))) (.sl true sz xs) v := by
        have := (RelV.p hp).mono hev
        cases this; assumption
      refine .sl ?_ ⟨by simp [Hp.n_new], fun k0 d hk0 => ?_⟩
      · cases hp' with
        | nil => exact .nil _ _
        | sl _ _ _ g off cap f hfl hcap hsz hrd hc => exact .sl false _ _ g off cap f (by simp) hcap hsz hrd hc
      · simp [Hp.f_new] at hk0
        refine ⟨by omega, fun _ => .inl ?_⟩
        cases hp' with
        | nil => exact ⟨none, 0, rfl, by simp [Gh.withT]⟩
        | sl _ _ _ g off cap f hfl hcap hsz hrd hc => exact ⟨some ⟨g, off, none⟩, xs.length, by rw [hfl rfl], by simp [Gh.withT]⟩
    · rw [if_neg hi]; exact h4.slot i
  obtain ⟨r, H', σ', v, w', M, q, st, q1, q2, q3, q5⟩ := h _ w a b cs m (h1.mono hpre.n0 hev.c hpre.lt) (hpre.go hr hf hev)
  exact ⟨r, H', σ', v, w', M, q, st, q1, q2, q3, hev.transM q5 hpre.n0 hpre.m⟩

/-- The i-th of a row, or the default. -/
def nth {α : Type} [Inhabited α] (l : List α) (i : Nat) : α := (l[i]?).getD default

section nth
variable {α : Type} [Inhabited α]
theorem nth_get {l : List α} {i : Nat} (h : i < l.length) : l[i]? = some (nth l i) := by simp [nth, h]
theorem nth_set_eq {l : List α} {i j : Nat} {x : α} (h : i = j) (hi : i < l.length) : nth (l.set i x) j = x := by subst h; simp [nth, hi]
theorem nth_set_ne {l : List α} {i j : Nat} {x : α} (h : i ≠ j) : nth (l.set i x) j = nth l j := by simp [nth, List.getElem?_set_ne h]
theorem nth_cons_zero {x : α} {l : List α} : nth (x :: l) 0 = x := rfl
theorem nth_cons_succ {x : α} {l : List α} {i : Nat} : nth (x :: l) (i + 1) = nth l i := by simp [nth]
theorem nth_append_l {l m : List α} {i : Nat} (h : i < l.length) : nth (l ++ m) i = nth l i := by simp [nth, List.getElem?_append_left h]
theorem nth_append_r {l m : List α} {i : Nat} (h : l.length ≤ i) : nth (l ++ m) i = nth m (i - l.length) := by simp [nth, List.getElem?_append_right h]
theorem nth_drop {l : List α} {n i : Nat} : nth (l.drop n) i = nth l (n + i) := by simp [nth]
theorem nth_take {l : List α} {n i : Nat} (h : i < n) : nth (l.take n) i = nth l i := by simp [nth, h]
theorem nth_replicate {n i : Nat} {x : α} (h : i < n) : nth (List.replicate n x) i = x := by simp [nth, h]
theorem nth_map {β : Type} [Inhabited β] {f : α → β} {l : List α} {i : Nat} (h : i < l.length) : nth (l.map f) i = f (nth l i) := by simp [nth, h]
theorem nth_ext {l m : List α} (hl : l.length = m.length) (h : ∀ i, i < l.length → nth l i = nth m i) : l = m := by
  refine List.ext_getElem? fun i => ?_
  by_cases hi : i < l.length
  · rw [nth_get hi, nth_get (by omega), h i hi]
  · rw [List.getElem?_eq_none (by omega), List.getElem?_eq_none (by omega)]
end nth

/-- A row of encoded things: pure, and as cells. -/
def pl {α : Type} (f : α → PV) (l : List α) : List PV := l.map f
def cl {α : Type} (f : α → PV) (l : List α) : List AV := l.map fun x => .p (f x)

section rows
variable {α : Type} {f : α → PV} {l m : List α} {i n : Nat} {x : α}
theorem pl_len : (pl f l).length = l.length := by simp [pl]
theorem cl_len : (cl f l).length = l.length := by simp [cl]
theorem pl_get [Inhabited α] (h : i < l.length) : (pl f l)[i]? = some (f (nth l i)) := by simp [pl, nth, h]
theorem cl_get [Inhabited α] (h : i < l.length) : (cl f l)[i]? = some (.p (f (nth l i))) := by simp [cl, nth, h]
theorem cl_set : (cl f l).set i (.p (f x)) = cl f (l.set i x) := by simp [cl, List.map_set]
theorem pl_p : (pl f l).map AV.p = cl f l := by simp [pl, cl]
theorem pl_take : (pl f l).take n = pl f (l.take n) := by simp [pl, List.map_take]
theorem pl_drop : (pl f l).drop n = pl f (l.drop n) := by simp [pl, List.map_drop]
theorem cl_take : (cl f l).take n = cl f (l.take n) := by simp [cl, List.map_take]
theorem cl_drop : (cl f l).drop n = cl f (l.drop n) := by simp [cl, List.map_drop]
theorem pl_append : pl f l ++ pl f m = pl f (l ++ m) := by simp [pl]
theorem cl_append : cl f l ++ cl f m = cl f (l ++ m) := by simp [cl]
theorem pl_one : pl f l ++ [f x] = pl f (l ++ [x]) := by simp [pl]
theorem pl_two {y : α} : pl f l ++ [f x, f y] = pl f (l ++ [x, y]) := by simp [pl]
theorem pl_nil : pl f [] = [] := rfl
theorem nil_pl : ([] : List PV) ++ pl f l = pl f l := rfl
theorem pl_replicate : pl f (List.replicate n x) = List.replicate n (f x) := by simp [pl]
theorem cl_replicate : cl f (List.replicate n x) = List.replicate n (.p (f x)) := by simp [cl]
theorem rep_cl : List.replicate n (AV.p (f x)) = cl f (List.replicate n x) := cl_replicate.symm
theorem rep_pl : List.replicate n (f x) = pl f (List.replicate n x) := pl_replicate.symm
theorem pl_isEmpty : (pl f l).isEmpty = l.isEmpty := by cases l <;> rfl
theorem pvs_pl : pvs? (cl f l) = some (pl f l) := by
  induction l with
  | nil => rfl
  | cons a l ih => simp only [cl, pl, List.map_cons] at ih ⊢; simp [pvs?, AV.pv?, ih]
theorem mkAgg_cl : mkAgg (cl f l) = .p (.agg (pl f l)) := by unfold mkAgg; rw [pvs_pl]
theorem acells_pl : acells (.p (.agg (pl f l))) = some (cl f l) := by simp [acells, pl_p]
theorem pl_weak (h : ∀ x, (f x).weak = f x) : (pl f l).map PV.weak = pl f l := by simp [pl, Function.comp_def, h]
theorem pl_weak1 (h : ∀ x, (f x).weak1 = f x) : (pl f l).map PV.weak1 = pl f l := by simp [pl, Function.comp_def, h]
theorem flat_pl (h : ∀ x, (f x).cells = [f x]) : flat (pl f l) = pl f l := by
  unfold flat pl
  induction l with
  | nil => rfl
  | cons a l ih => simp [h, ih]
theorem setAt_cl (h : i + m.length ≤ l.length) : setAt (cl f l) i (cl f m) = cl f (l.take i ++ m ++ l.drop (i + m.length)) := by
  rw [setAt_eq _ _ _ (by simpa [cl_len] using h)]
  simp [cl]
theorem setAt_all (h : m.length = l.length) : setAt (cl f l) 0 (cl f m) = cl f m := by
  rw [setAt_cl (by omega)]
  simp [h]
theorem refElems_cl (hf : ∀ x, ∀ b, mkElem b [.p (f x)] = if b then some (.agg [f x]) else some (f x)) : ∀ {n : Nat} {l : List α}, n ≤ l.length → refElems false 1 n (cl f l) = some (pl f (l.take n))
  | 0, _, _ => by simp [refElems, pl]
  | n + 1, [], h => by simp at h
  | n + 1, a :: l, h => by
    have := refElems_cl hf (n := n) (l := l) (by simpa using h)
    simp only [cl, List.map_cons] at this ⊢
    simp [refElems, hf, this, pl]
end rows

/-- Small numbers: what the program's ints come to. -/
theorem tn_sub (i n : Nat) : ((i : Int) - (no_index (OfNat.ofNat n) : Int)).toNat = i - OfNat.ofNat n := by show ((i : Int) - (n : Int)).toNat = i - n; omega
theorem tn_add (i n : Nat) : ((i : Int) + (no_index (OfNat.ofNat n) : Int)).toNat = i + OfNat.ofNat n := by show ((i : Int) + (n : Int)).toNat = i + n; omega
theorem tn_mul (i n : Nat) : ((no_index (OfNat.ofNat n) : Int) * (i : Int)).toNat = OfNat.ofNat n * i := by show ((n : Int) * (i : Int)).toNat = n * i; rw [← Int.natCast_mul]; omega
theorem tn_mul_add (i n m : Nat) : ((no_index (OfNat.ofNat n) : Int) * (i : Int) + (no_index (OfNat.ofNat m) : Int)).toNat = OfNat.ofNat n * i + OfNat.ofNat m := by show ((n : Int) * (i : Int) + (m : Int)).toNat = n * i + m; rw [← Int.natCast_mul]; omega
theorem tn_mul_add' (i n m : Nat) : ((no_index (OfNat.ofNat n) : Int) * (i : Int) + (m : Int)).toNat = OfNat.ofNat n * i + m := by show ((n : Int) * (i : Int) + (m : Int)).toNat = n * i + m; rw [← Int.natCast_mul]; omega
theorem tn_div (i n : Nat) : ((i : Int) / (no_index (OfNat.ofNat n) : Int)).toNat = i / OfNat.ofNat n := by show ((i : Int) / (n : Int)).toNat = i / n; rw [← Int.natCast_ediv]; exact Int.toNat_natCast _
theorem tn_mod (i n : Nat) : ((i : Int) % (no_index (OfNat.ofNat n) : Int)).toNat = i % OfNat.ofNat n := by show ((i : Int) % (n : Int)).toNat = i % n; rw [← Int.natCast_emod]; exact Int.toNat_natCast _
theorem i64_cast {a b : Int} (h : a = b) : i64 a = i64 b := by rw [h]
theorem tn_lit (n : Nat) : (no_index (OfNat.ofNat n) : Int).toNat = OfNat.ofNat n := rfl
theorem ares_tmp {P : Program} {t : Nat} {env : Env} {H : Hp} : ares P [.tmp t] env H = some (env t) := rfl
theorem ares_none {P : Program} {env : Env} {H : Hp} : ares P [] env H = some (.tup []) := rfl
theorem ares_cell {P : Program} {a : Nat} {t : TypeId} {env : Env} {H : Hp} : ares P [.cell a t] env H = aLoad P H t (env a) := by
  simp only [ares, aresAll, aresOne]
  cases aLoad P H t (env a) <;> rfl
theorem out_p {n : Nat} {x : PV} : (AV.p x).out n = some (.p x.weak) := rfl
theorem out_sl {n a v sz : Nat} {xs : List PV} : (AV.sl a v sz xs).out n = some (.p (.sl false sz xs)) := rfl
theorem out_tup0 {n : Nat} : (AV.tup []).out n = some (.tup []) := rfl
theorem dec_true : decide True = true := by simp
theorem dec_false : decide False = false := by simp
theorem if_t {α : Type} {c : Prop} [Decidable c] {x y : α} (h : c) : (if c then x else y) = x := if_pos h
theorem if_f {α : Type} {c : Prop} [Decidable c] {x y : α} (h : ¬c) : (if c then x else y) = y := if_neg h
theorem bel_new {n : Nat} {H : Hp} {x : AB} (h : Bel n H) (hn : n ≤ H.n) : Bel n (H.new x) := (Bel.new hn).2 h
theorem bel_set {n b : Nat} {H : Hp} {x : AB} (h : Bel n H) (hn : n ≤ b) : Bel n (H.set b x) := (Bel.set_hi hn).2 h
theorem bel_cl {α : Type} {f : α → PV} {l : List α} {n b : Nat} {H : Hp} (h : Bel n H) : Bel n (H.set b (.cells (cl f l))) := h.set_cells fun x hx => by
  simp only [cl, List.mem_map] at hx
  obtain ⟨a, _, rfl⟩ := hx
  exact .p _
theorem len_take {α : Type} {l : List α} {n : Nat} (h : n ≤ l.length) : (l.take n).length = n := List.length_take_of_le h
theorem fold_i64 {n : Int} : AV.p (.s (.int .i64 n)) = .p (i64 n) := rfl
theorem cells_agg {xs : List PV} : (PV.agg xs).cells = xs := rfl
theorem isAgg_agg {xs : List PV} : (PV.agg xs).isAgg = true := rfl
theorem isAggV_agg {xs : List PV} : (AV.p (.agg xs)).isAggV = true := rfl
theorem set_same {H : Hp} {b : Nat} {x : AB} (h : H.f b = some x) : H.set b x = H := by
  cases H with | mk f n wf =>
  simp only [Hp.set, Hp.mk.injEq, and_true]
  funext c
  by_cases hc : c = b ∧ b < n
  · rw [if_pos hc, hc.1]; exact h.symm
  · rw [if_neg hc]
theorem set_set' {H : Hp} {b : Nat} {x y : AB} : (H.set b x).set b y = H.set b y := by
  cases H with | mk f n wf =>
  simp only [Hp.set, Hp.mk.injEq, and_true]
  funext c
  by_cases hc : c = b ∧ b < n
  · simp [hc]
  · simp [hc]
def upTo : Nat → Nat → List Nat → Prop
  | i, n, [] => i = n
  | i, n, x :: xs => x = i ∧ upTo (i + 1) n xs
theorem upTo_range' : ∀ (l : List Nat) (i n : Nat), upTo i (i + n) l ↔ l = List.range' i n
  | [], i, n => by cases n <;> simp [upTo, List.range']
  | x :: l, i, 0 => by
    have h : ∀ (l : List Nat) (i n : Nat), upTo i n l → i ≤ n := by
      intro l
      induction l with
      | nil => intro i n h; exact Nat.le_of_eq h
      | cons y l ih => intro i n h; have := ih _ _ h.2; omega
    simp only [upTo, List.range', Nat.add_zero]
    constructor
    · intro hh; have := h _ _ _ hh.2; omega
    · intro hh; cases hh
  | x :: l, i, n + 1 => by
    have := upTo_range' l (i + 1) n
    simp only [upTo, List.range', List.cons.injEq]
    rw [← this, show i + (n + 1) = i + 1 + n by omega]
theorem range_upTo {l : List Nat} {n : Nat} : (l = List.range n) = upTo 0 n l := by
  rw [List.range_eq_range', ← upTo_range', Nat.zero_add]
theorem upTo_nil {i n : Nat} : upTo i n [] = (i = n) := rfl
theorem upTo_cons {i n x : Nat} {xs : List Nat} : upTo i n (x :: xs) = (x = i ∧ upTo (i + 1) n xs) := rfl
theorem pvs_nil : pvs? [] = some [] := rfl
theorem pvs_cons {x : PV} {xs : List AV} : pvs? (.p x :: xs) = (pvs? xs).map (x :: ·) := by
  simp only [pvs?, AV.pv?]
  cases pvs? xs <;> rfl
theorem cells_sl {fl : Bool} {sz : Nat} {xs : List PV} : (PV.sl fl sz xs).cells = [.sl fl sz xs] := rfl
theorem bb_ff : (false == false) = true := rfl
theorem bb_ft : (false == true) = false := rfl
theorem bb_tf : (true == false) = false := rfl
theorem bb_tt : (true == true) = true := rfl
theorem true_ne_false : (true = false) = False := by simp
theorem take_one {α : Type} [Inhabited α] {l : List α} {i : Nat} (h : i < l.length) : l.take i ++ [nth l i] = l.take (i + 1) := by
  rw [List.take_succ_eq_append_getElem h]
  simp [nth, h]
/-- Is this the type of an array of n integers of this kind, one cell each? -/
def arrOK (P : Program) (t : TypeId) (k : IntKind) (n : Nat) : Bool :=
  match P.underlying t with
  | some (.array m e) => (match P.underlying e with | some (.int k') => k' == k | _ => false) && m == n && P.cellsOf e == 1 && P.cellsOf t == n && P.keyTypeAt 64 t && !P.eqGuardType P.depth t && isAggT P t
  | _ => false

theorem mapM_flat {α : Type} (g : Nat → Option (List α)) (h : Nat → α) : ∀ (l : List Nat), (∀ i ∈ l, g i = some [h i]) → (l.mapM g).map List.flatten = some (l.map h)
  | [], _ => rfl
  | i :: l, hg => by
    have ih := mapM_flat g h l (fun j hj => hg j (by simp [hj]))
    simp only [List.mapM_cons, hg i (by simp)]
    cases hm : l.mapM g with
    | none => simp [hm] at ih
    | some ls =>
      simp only [hm, Option.map_some, Option.some.injEq] at ih
      simp [ih]

theorem keyLits_ints {α : Type} [Inhabited α] {P : Program} {t : TypeId} {k : IntKind} (z : α → Int) (hz : ∀ x, (Lit.int k (z x)).wf = true) (l : List α) (h : arrOK P t k l.length = true) :
    P.keyLits 64 t (l.map fun x => Value.int k (z x)) = some (l.map fun x => Lit.int k (z x)) := by
  unfold arrOK at h
  split at h
  case h_2 => cases h
  rename_i m e hu
  simp only [Bool.and_eq_true, beq_iff_eq] at h
  obtain ⟨⟨⟨⟨⟨⟨h1, h2⟩, h3⟩, h4⟩, _⟩, _⟩, _⟩ := h
  split at h1
  case h_2 => cases h1
  rename_i k' hk
  have hk' : k' = k := by simpa using h1
  subst hk' h2
  unfold Program.keyLits
  simp only [hu, List.length_map, h4, if_true]
  have hm := mapM_flat (fun i => P.keyLits 63 e (((l.map fun x => Value.int k' (z x)).drop (i * P.cellsOf e)).take (P.cellsOf e))) (fun i => Lit.int k' (z (nth l i))) (List.range l.length) (fun i hi => by
    have hi' : i < l.length := List.mem_range.1 hi
    have e1 : ((l.map fun x => Value.int k' (z x)).drop (i * P.cellsOf e)).take (P.cellsOf e) = [Value.int k' (z (nth l i))] := by
      rw [h3, Nat.mul_one, List.take_one]
      simp [nth, hi']
    simp only [e1]
    unfold Program.keyLits
    simp [hk, hz])
  rw [hm]
  congr 1
  refine List.ext_getElem? fun i => ?_
  by_cases hi : i < l.length
  · simp [hi, nth]
  · simp [Nat.le_of_not_lt hi]

theorem pvVals_map {α : Type} (z : α → Value) : ∀ (l : List α), pvVals (l.map fun x => PV.s (z x)) = some (l.map z)
  | [] => rfl
  | x :: l => by simp [pvVals, pvVals_map z l]

theorem aggEq_ints {α : Type} [Inhabited α] {P : Program} {t : TypeId} {k : IntKind} (z : α → Int) (hz : ∀ x, (Lit.int k (z x)).wf = true) (hi : ∀ x y, z x = z y → x = y) [DecidableEq α] (a b : List α) (h : arrOK P t k a.length = true) (hb : b.length = a.length) :
    aggEq P t (a.map fun x => PV.s (.int k (z x))) (b.map fun x => PV.s (.int k (z x))) = some (decide (a = b)) := by
  have hb' : arrOK P t k b.length = true := by rw [hb]; exact h
  have h2 := h
  unfold arrOK at h2
  split at h2
  case h_2 => cases h2
  simp only [Bool.and_eq_true, Bool.not_eq_true'] at h2
  obtain ⟨⟨⟨_, h5⟩, h6⟩, h7⟩ := h2
  unfold aggEq
  rw [pvVals_map, pvVals_map, if_pos (by simp [h5, h6, h7])]
  simp only [keyLits_ints z hz a h, keyLits_ints z hz b hb', Option.some.injEq, decide_eq_decide]
  constructor
  · intro e
    refine nth_ext hb.symm fun i hi' => ?_
    have := congrArg (fun l : List Lit => l[i]?) e
    simp only [List.getElem?_map, nth_get hi', nth_get (show i < b.length by omega), Option.map_some, Option.some.injEq, Lit.int.injEq, true_and] at this
    exact hi _ _ this
  · intro e; rw [e]

theorem eq_b8 {P : Program} {t : TypeId} {a b : List (BitVec 8)} (h : arrOK P t .u8 a.length = true) (hb : b.length = a.length) : aBin P .eql t (.p (.agg (pl b8 a))) (.p (.agg (pl b8 b))) = some (.p (bo (decide (a = b)))) := by
  have := aggEq_ints (P := P) (t := t) (k := .u8) (fun x : BitVec 8 => (x.toNat : Int)) (fun x => by have := x.isLt; simp only [Lit.wf, Bool.and_eq_true, decide_eq_true_eq]; exact ⟨by show (0 : Int) ≤ _; omega, by show _ ≤ (255 : Int); omega⟩) (fun x y e => BitVec.eq_of_toNat_eq (by omega)) a b h hb
  show (aggEq P t (a.map b8) (b.map b8)).map _ = _
  have e1 : (b8 : BitVec 8 → PV) = fun x => PV.s (.int .u8 x.toNat) := rfl
  rw [e1, this]
  rfl
theorem setAt_one {cs : List AV} {o : Nat} {x : AV} : setAt cs o [x] = cs.set o x := rfl
theorem setAt_whole {cs xs : List AV} (h : xs.length = cs.length) : setAt cs 0 xs = xs := by rw [setAt_eq _ _ _ (by omega)]; simp [h]
theorem take_whole {α : Type} {l : List α} {n : Nat} (h : l.length ≤ n) : l.take n = l := List.take_of_length_le h
theorem drop_none {α : Type} {l : List α} : l.drop 0 = l := rfl
theorem cast_lit (n : Nat) : ((no_index (OfNat.ofNat n : Nat) : Nat) : Int) = (OfNat.ofNat n : Int) := rfl
theorem fillA_nil {p : Nat → Option (Nat × Nat)} {cs : List AV} : fillA p cs [] = some cs := rfl
theorem aconstT_agg {P : Program} {t : TypeId} {vs : Array Value} : aconstT P t (.agg vs) = aconst (.agg vs) := rfl
theorem pl_weak1_b8 {l : List (BitVec 8)} : (pl b8 l).map PV.weak1 = pl b8 l := pl_weak1 fun _ => weak1_b8 _
theorem pl_weak_b8 {l : List (BitVec 8)} : (pl b8 l).map PV.weak = pl b8 l := pl_weak fun _ => weak_b8 _
theorem pl_weak1_w16 {l : List (BitVec 16)} : (pl w16 l).map PV.weak1 = pl w16 l := pl_weak1 fun _ => weak1_w16 _
theorem pl_weak_w16 {l : List (BitVec 16)} : (pl w16 l).map PV.weak = pl w16 l := pl_weak fun _ => weak_w16 _
theorem pl_weak1_w32 {l : List (BitVec 32)} : (pl w32 l).map PV.weak1 = pl w32 l := pl_weak1 fun _ => weak1_w32 _
theorem pl_weak_w32 {l : List (BitVec 32)} : (pl w32 l).map PV.weak = pl w32 l := pl_weak fun _ => weak_w32 _
theorem pl_weak1_w64 {l : List (BitVec 64)} : (pl w64 l).map PV.weak1 = pl w64 l := pl_weak1 fun _ => weak1_w64 _
theorem pl_weak_w64 {l : List (BitVec 64)} : (pl w64 l).map PV.weak = pl w64 l := pl_weak fun _ => weak_w64 _
theorem pl_weak1_i64 {l : List Int} : (pl i64 l).map PV.weak1 = pl i64 l := pl_weak1 fun _ => weak1_i64 _
theorem pl_weak_i64 {l : List Int} : (pl i64 l).map PV.weak = pl i64 l := pl_weak fun _ => weak_i64 _
theorem pl_weak1_bo {l : List Bool} : (pl bo l).map PV.weak1 = pl bo l := pl_weak1 fun _ => weak1_bo _
theorem pl_weak_bo {l : List Bool} : (pl bo l).map PV.weak = pl bo l := pl_weak fun _ => weak_bo _
theorem refElems_b8 {n : Nat} {l : List (BitVec 8)} (h : n ≤ l.length) : refElems false 1 n (cl b8 l) = some (pl b8 (l.take n)) := refElems_cl (fun x b => by cases b <;> rfl) h
theorem flat_b8 {l : List (BitVec 8)} : flat (pl b8 l) = pl b8 l := flat_pl fun _ => rfl
theorem refElems_w16 {n : Nat} {l : List (BitVec 16)} (h : n ≤ l.length) : refElems false 1 n (cl w16 l) = some (pl w16 (l.take n)) := refElems_cl (fun x b => by cases b <;> rfl) h
theorem flat_w16 {l : List (BitVec 16)} : flat (pl w16 l) = pl w16 l := flat_pl fun _ => rfl
theorem refElems_w32 {n : Nat} {l : List (BitVec 32)} (h : n ≤ l.length) : refElems false 1 n (cl w32 l) = some (pl w32 (l.take n)) := refElems_cl (fun x b => by cases b <;> rfl) h
theorem flat_w32 {l : List (BitVec 32)} : flat (pl w32 l) = pl w32 l := flat_pl fun _ => rfl
theorem refElems_w64 {n : Nat} {l : List (BitVec 64)} (h : n ≤ l.length) : refElems false 1 n (cl w64 l) = some (pl w64 (l.take n)) := refElems_cl (fun x b => by cases b <;> rfl) h
theorem flat_w64 {l : List (BitVec 64)} : flat (pl w64 l) = pl w64 l := flat_pl fun _ => rfl
theorem refElems_i64 {n : Nat} {l : List Int} (h : n ≤ l.length) : refElems false 1 n (cl i64 l) = some (pl i64 (l.take n)) := refElems_cl (fun x b => by cases b <;> rfl) h
theorem flat_i64 {l : List Int} : flat (pl i64 l) = pl i64 l := flat_pl fun _ => rfl
theorem refElems_bo {n : Nat} {l : List Bool} (h : n ≤ l.length) : refElems false 1 n (cl bo l) = some (pl bo (l.take n)) := refElems_cl (fun x b => by cases b <;> rfl) h
theorem flat_bo {l : List Bool} : flat (pl bo l) = pl bo l := flat_pl fun _ => rfl
attribute [go_sem] refElems_b8 flat_b8 refElems_w16 flat_w16 refElems_w32 flat_w32 refElems_w64 flat_w64 refElems_i64 flat_i64 refElems_bo flat_bo setAt_cl
attribute [go_sem] eq_b8 bb_ff bb_ft bb_tf bb_tt true_ne_false take_one and_self List.getElem?_toArray List.range_zero List.cons.injEq pvs_nil pvs_cons cells_sl List.all_cons List.all_nil set_set' false_implies true_implies fold_i64 cells_agg isAgg_agg isAggV_agg true_or or_true false_or or_false false_and and_false not_true_eq_false not_false_eq_true len_take List.length_drop Nat.add_sub_cancel_left
attribute [go_sem] pl_weak1_b8 pl_weak_b8 pl_weak1_w16 pl_weak_w16 pl_weak1_w32 pl_weak_w32 pl_weak1_w64 pl_weak_w64 pl_weak1_i64 pl_weak_i64 pl_weak1_bo pl_weak_bo dec_true dec_false if_t if_f ares_tmp ares_none ares_cell out_p out_sl out_tup0 fillA_nil setAt_one setAt_whole take_whole drop_none cast_lit Int.natCast_add Int.natCast_mul cl_len pl_len cl_get pl_get cl_set pl_p mkAgg_cl acells_pl pl_one pl_two pl_append cl_append pl_take pl_drop rep_cl rep_pl setAt_all List.length_set pl_isEmpty tn_sub tn_add tn_mul tn_mul_add tn_mul_add' tn_div tn_mod
end Go.AL
