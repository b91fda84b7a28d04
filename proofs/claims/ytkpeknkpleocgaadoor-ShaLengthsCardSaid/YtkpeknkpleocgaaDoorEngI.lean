/-
  Slice literals, copy, slicing, len, and bytes to strings and back, on abstract values.
  Conditions: none; nothing here speaks of one program.
-/
import Derived.Test.YtkpeknkpleocgaaDoorEngH
set_option linter.unusedSimpArgs false
set_option linter.unusedVariables false
namespace Go.AL
open Go

def PV.weak1 : PV → PV
  | .sl _ sz xs => .sl false sz xs
  | x => x

/-- The same data, with nothing said of the room behind slices. -/
def PV.weak : PV → PV
  | .agg cs => .agg (cs.map PV.weak1)
  | x => x.weak1

def AV.weak : AV → AV
  | .p x => .p x.weak
  | .sl _ _ sz xs => .p (.sl false sz xs)
  | x => x

theorem RelP.weak1 {w S} {x : PV} {v : Value} (h : RelP w S x v) : RelP w S x.weak1 v := by
  cases h with
  | s v h1 => exact .s v h1
  | agg xs vs hl h1 h => exact .agg xs vs hl h1 h
  | nil => exact .nil _ _
  | sl fl sz xs g off cap f hfl hcap hsz hrd hc => exact .sl false sz xs g off cap f (by simp) hcap hsz hrd hc

theorem RelP.weak {w S} {x : PV} {v : Value} (h : RelP w S x v) : RelP w S x.weak v := by
  cases h with
  | s v h1 => exact .s v h1
  | agg xs vs hl h1 h =>
    refine .agg _ vs (by simp [hl]) h1 fun i x v hx hv => ?_
    simp only [List.getElem?_map, Option.map_eq_some_iff] at hx
    obtain ⟨y, hy, rfl⟩ := hx
    exact (h i y v hy hv).weak1
  | nil => exact .nil _ _
  | sl fl sz xs g off cap f hfl hcap hsz hrd hc => exact .sl false sz xs g off cap f (by simp) hcap hsz hrd hc

theorem RelV.weak {σ H w} {x : AV} {v : Value} (h : RelV σ H w x v) : RelV σ H w x.weak v := by
  cases h with
  | p h => exact .p h.weak
  | sl h ht => exact .p h
  | ref a b c d e => exact .ref a b c d e
  | ptr h => exact .ptr h
  | ip a b c => exact .ip a b c
  | clo a b c d e f => exact .clo a b c d e f
  | tup a b c => exact .tup a b c
  | agg a b c d => exact .agg a b c d
  | yld h => exact .yld h
  | vr h => exact .vr h
  | vp a h => exact .vp a h
  | top v => exact .top v

theorem PV.weak_cells (x : PV) : x.weak.cells.length = x.cells.length := by
  cases x <;> simp [PV.weak, PV.weak1, PV.cells]

def catCells : List AV → Option (List AV)
  | [] => some []
  | x :: xs => match acells x, catCells xs with
    | some a, some b => some (a ++ b)
    | _, _ => none

def aBuildSlice (P : Program) (H : Hp) (t : TypeId) (n : Nat) (parts : List (Nat × AV)) : Option (AV × Hp) :=
  match P.underlying t with
  | some (.slice e) =>
    if zfits P e ∧ 0 < P.cellsOf e ∧ n * P.cellsOf e ≤ 16777216 ∧ parts.map (·.1) = List.range n then
      match pvs? (parts.map (·.2)) with
      | some xs => if xs.all fun x => x.cells.length == P.cellsOf e then some (.p (.sl true (P.cellsOf e) (xs.map PV.weak)), H) else none
      | none =>
        match catCells (parts.map (·.2)) with
        | some cs => if parts.all fun x => (acells x.2).any fun a => a.length == P.cellsOf e then some (.ref H.n 0 n (P.cellsOf e), H.new (.cells cs)) else none
        | none => none
    else none
  | _ => none

section build
variable {P : Program} {G : Globs} {σ : Gh} {H : Hp} {w : World}

theorem catCells_rel {sz : Nat} : ∀ {xs : List AV} {cs : List AV} {vs : List Value}, catCells xs = some cs → vs.length = xs.length → (∀ (i : Nat) x v, xs[i]? = some x → vs[i]? = some v → RelV σ H w x v) →
    (∀ x ∈ xs, ∃ a, acells x = some a ∧ a.length = sz) → (∀ v ∈ vs, v.cells.size = sz) ∧ cs.length = xs.length * sz ∧ RowRel σ H w cs (vs.flatMap fun v => v.cells.toList).toArray
  | [], cs, vs, h, hl, _, _ => by
    simp only [catCells, Option.some.injEq] at h; subst h
    have : vs = [] := List.eq_nil_of_length_eq_zero hl
    subst this
    exact ⟨by simp, by simp, rfl, by simp⟩
  | x :: xs, cs, [], h, hl, _, _ => by simp at hl
  | x :: xs, cs, v :: vs, h, hl, hr, hs => by
    simp only [catCells] at h
    split at h
    case h_2 => cases h
    rename_i a b ha hb
    cases h
    obtain ⟨a', ha', hal⟩ := hs x (by simp)
    rw [ha] at ha'; cases ha'
    obtain ⟨h1, h2, h3, h4⟩ := catCells_rel hb (by simpa using hl) (fun i x v h1 h2 => hr (i + 1) x v (by simpa using h1) (by simpa using h2)) (fun x hx => hs x (by simp [hx]))
    obtain ⟨q1, q2⟩ := acells_rel ha (hr 0 x v (by simp) (by simp))
    refine ⟨fun u hu => ?_, by simp [h2, hal, Nat.succ_mul]; omega, ?_, fun i y u hy hu => ?_⟩
    · simp only [List.mem_cons] at hu
      rcases hu with rfl | hu
      · omega
      · exact h1 u hu
    · simp only [List.size_toArray, List.flatMap_cons, List.length_append, Array.length_toList] at h3 ⊢
      omega
    · simp only [List.getElem?_toArray, List.flatMap_cons] at hu h4
      by_cases hi : i < a.length
      · rw [List.getElem?_append_left hi] at hy
        rw [List.getElem?_append_left (by simp; omega)] at hu
        exact q2 i y u hy (by simpa using hu)
      · rw [List.getElem?_append_right (by omega)] at hy
        rw [List.getElem?_append_right (by simp; omega)] at hu
        simp only [Array.length_toList, q1] at hu
        exact h4 _ y u hy hu

theorem aBuildSlice_run {t : TypeId} {n : Nat} {parts : List (Nat × AV)} {vparts : Array (Nat × Value)} {y : AV} {H' : Hp} (hr : Rel G σ H w) (h : aBuildSlice P H t n parts = some (y, H'))
    (hl : vparts.size = parts.length) (hp : ∀ (k : Nat) i x j v, parts[k]? = some (i, x) → vparts[k]? = some (j, v) → j = i ∧ RelV σ H w x v) :
    ∃ v w' σ', (Instr.buildSlice t n vparts).run P w = .ok v w' ∧ RelV σ' H' w' y v ∧ Rel G σ' H' w' ∧ Ev H.n σ H w σ' H' w' := by
  unfold aBuildSlice at h
  split at h
  case h_2 => cases h
  rename_i e hu
  split at h
  case isFalse => cases h
  rename_i hc
  obtain ⟨hzf, hpos, hsmall, hidx⟩ := hc
  have hps : ∃ ps, azero P e = some ps ∧ ps.length = P.cellsOf e := by
    unfold zfits at hzf
    split at hzf
    · rename_i ps hps; exact ⟨ps, hps, by simpa using hzf⟩
    · cases hzf
  obtain ⟨ps, hps, hpl⟩ := hps
  obtain ⟨z, hz1, hz, hzs, hzz⟩ := azero_run (w := w) (S := Stable σ H) hps
  obtain ⟨ie, hie⟩ : ∃ i, P.info? e = some i := by
    cases hh : P.info? e with
    | none => simp [hh] at hz
    | some i => exact ⟨i, rfl⟩
  have hiz : ie.zero = some z := by simpa [hie] using hz
  have his : ie.size = P.cellsOf e := by simp [Program.cellsOf, hie]
  have hn : parts.length = n := by have := congrArg List.length hidx; simpa using this
  have hval : ∀ (i : Nat) x v, (parts.map (·.2))[i]? = some x → (vparts.toList.map (·.2))[i]? = some v → RelV σ H w x v := fun i x v h1 h2 => by
    simp only [List.getElem?_map, Option.map_eq_some_iff] at h1 h2
    obtain ⟨⟨j, x'⟩, h1, rfl⟩ := h1
    obtain ⟨⟨j', v'⟩, h2, rfl⟩ := h2
    exact (hp i j x' j' v' h1 (by simpa using h2)).2
  have hzip : vparts.toList = ((vparts.toList.map (·.2)).zipIdx 0).map fun x => (x.2, x.1) := by
    apply List.ext_getElem?
    intro k
    simp only [List.getElem?_map, List.getElem?_zipIdx, Option.map_map, Function.comp_def, Nat.zero_add]
    cases hk : vparts.toList[k]? with
    | none => rfl
    | some jv =>
      obtain ⟨j, v⟩ := jv
      have hlt : k < parts.length := by rw [← hl]; have := (List.getElem?_eq_some_iff.1 hk).1; simpa using this
      have h1 : parts[k]? = some parts[k] := by simp
      obtain ⟨hj, _⟩ := hp k parts[k].1 parts[k].2 j v h1 (by simpa using hk)
      have h2 : (parts.map (·.1))[k]? = some k := by rw [hidx]; exact List.getElem?_range (by omega)
      simp [hlt] at h2
      simp [hj, h2]
  have hrun : ∀ (h1 : ∀ v ∈ vparts.toList.map (·.2), v.cells.size = P.cellsOf e), (Instr.buildSlice t n vparts).run P w =
      .ok (.slice (some ⟨w.heap.size, 0, none⟩) n n) (w.alloc (.cells ((vparts.toList.map (·.2)).flatMap fun v => v.cells.toList).toArray e)) := fun h1 => by
    by_cases hn0 : n = 0
    · subst hn0
      have hp0 : parts = [] := List.eq_nil_of_length_eq_zero hn
      subst hp0
      have : vparts = #[] := by simpa using hl
      subst this
      simp [Instr.buildSlice, run_underlying hu, sizeOf, typeInfo, hie, Instr.fill, newRow, Array.range_zero']
    · have hpos' : 0 < n * P.cellsOf e := Nat.mul_pos (by omega) hpos
      refine run_buildSlice w t e n vparts _ ie z hu hie hiz (by rw [his]; omega) (by rw [his]; omega) ?_
      rw [his]
      have := Great.fill_whole hpos _ ((Array.range (n * P.cellsOf e)).map (z.cells[· % z.cells.size]!)) h1 (by simp [hl, hn])
      rwa [← hzip] at this
  split at h
  · rename_i xs hxs
    split at h
    case isFalse => cases h
    rename_i hall
    simp only [Option.some.injEq, Prod.mk.injEq] at h
    obtain ⟨rfl, rfl⟩ := h
    obtain ⟨hxl, hxg⟩ := pvs?_get hxs
    have hxs' : ∀ x ∈ xs, x.cells.length = P.cellsOf e := fun x hx => by simpa using List.all_eq_true.1 hall x hx
    have hcell : ∀ x ∈ xs, acells (.p x) = some (x.cells.map .p) := fun x _ => by cases x <;> rfl
    have hlen : (vparts.toList.map (·.2)).length = (xs.map AV.p).length := by
      simp only [List.length_map, Array.length_toList, hxl, hl]
    have hpr : ∀ (i : Nat) x v, (xs.map AV.p)[i]? = some x → (vparts.toList.map (·.2))[i]? = some v → RelV σ H w x v := fun i x v h1 h2 => by
      simp only [List.getElem?_map, Option.map_eq_some_iff] at h1
      obtain ⟨p, hpp, rfl⟩ := h1
      obtain ⟨a, ha, hap⟩ := hxg i p hpp
      exact .p (AV.pv?_rel hap (hval i a v ha h2))
    have hcat : catCells (xs.map AV.p) = some ((flat xs).map .p) := by
      have : ∀ l : List PV, catCells (l.map AV.p) = some ((flat l).map .p) := by
        intro l
        induction l with
        | nil => rfl
        | cons a l ih =>
          have ha : acells (.p a) = some (a.cells.map .p) := by cases a <;> rfl
          simp only [List.map_cons, catCells, ha, ih, flat, List.flatMap_cons, List.map_append]
      exact this xs
    obtain ⟨q1, q2, q3⟩ := catCells_rel (sz := P.cellsOf e) hcat hlen hpr (fun x hx => by
      simp only [List.mem_map] at hx
      obtain ⟨p, hpm, rfl⟩ := hx
      exact ⟨_, hcell p hpm, by simp [hxs' p hpm]⟩)
    obtain ⟨r1, r2⟩ := rel_alloc hr (.cells ((vparts.toList.map (·.2)).flatMap fun v => v.cells.toList).toArray e)
    refine ⟨_, _, σ, hrun q1, ?_, r1, r2⟩
    have hxn : xs.length = n := by rw [hxl]; simpa using hn
    have hmap : ∀ x ∈ xs.map PV.weak, x.cells.length = P.cellsOf e := fun x hx => by
      simp only [List.mem_map] at hx
      obtain ⟨y, hy, rfl⟩ := hx
      rw [PV.weak_cells]; exact hxs' y hy
    generalize hrow : ((vparts.toList.map (·.2)).flatMap fun v => v.cells.toList).toArray = row at *
    have hnlen : n = (xs.map PV.weak).length := by simp [hxn]
    rw [hnlen]
    have hrow3 := q3.1
    have hcl : ((flat xs).map AV.p).length = xs.length * P.cellsOf e := by rw [List.length_map, flat_len hxs']
    have hst : ∀ o, Stable σ H w.heap.size o := fun o => ⟨fun b cs hb => by have := hr.c_lt hb; omega, fun b k d o' s hb ht => by have := hr.t_lt hb ht; omega⟩
    refine .p (.sl true _ _ w.heap.size 0 _ (fun k => row.getD k undef) (fun _ => rfl) ⟨Nat.le_refl _, ?_⟩ hmap (fun k hk => ?_) (fun k y hk => ?_))
    · have : n ≤ n * P.cellsOf e := Nat.le_mul_of_pos_right _ hpos
      rw [← hnlen]; unfold maxLen; omega
    · have hk' : k < row.size := by simp only [List.length_map] at hk; omega
      have hx : ((flat xs).map AV.p)[k]? = some (((flat xs).map AV.p)[k]'(by omega)) := by simp
      have := q3.2 k _ row[k] hx (by simp)
      refine ⟨hst _, ?_, ?_⟩
      · simp only [World.cell?, heap_alloc_new, Nat.zero_add]
        simp [hk']
      · simp [Array.getD, hk']; exact this.2
    · have hk' : k < row.size := by
        have := (List.getElem?_eq_some_iff.1 hk).1
        rw [flat_len hmap] at this
        simp only [List.length_map] at this; omega
      have hw : ∀ l : List PV, (∀ x ∈ l, x.cells.length = P.cellsOf e) → ∀ (k : Nat) y, (flat (l.map PV.weak))[k]? = some y → ∃ z, (flat l)[k]? = some z ∧ y = z.weak1 := by
        intro l
        induction l with
        | nil => intro _ k y hk; simp [flat] at hk
        | cons a l ih =>
          intro hl k y hk
          simp only [flat, List.map_cons, List.flatMap_cons] at hk ⊢
          by_cases hka : k < a.cells.length
          · rw [List.getElem?_append_left (by rw [PV.weak_cells]; exact hka)] at hk
            rw [List.getElem?_append_left hka]
            cases a with
            | agg cs =>
              simp only [PV.weak, PV.cells, List.getElem?_map, Option.map_eq_some_iff] at hk
              obtain ⟨z, hz, rfl⟩ := hk
              exact ⟨z, hz, rfl⟩
            | s v =>
              simp only [PV.cells, List.length_singleton] at hka
              have : k = 0 := by omega
              subst this
              simp only [PV.weak, PV.weak1, PV.cells, List.getElem?_cons_zero, Option.some.injEq] at hk
              subst hk
              exact ⟨_, rfl, rfl⟩
            | sl fl sz ys =>
              simp only [PV.cells, List.length_singleton] at hka
              have : k = 0 := by omega
              subst this
              simp only [PV.weak, PV.weak1, PV.cells, List.getElem?_cons_zero, Option.some.injEq] at hk
              subst hk
              exact ⟨_, rfl, rfl⟩
          · rw [List.getElem?_append_right (by rw [PV.weak_cells]; omega), PV.weak_cells] at hk
            rw [List.getElem?_append_right (by omega)]
            exact ih (fun x hx => hl x (by simp [hx])) _ y hk
      obtain ⟨p, hpk, rfl⟩ := hw xs hxs' k y hk
      have hx : ((flat xs).map AV.p)[k]? = some (.p p) := by simp [hpk]
      have := (q3.2 k _ row[k] hx (by simp)).1
      cases this with | p this =>
      have := this.weak1.mono r2.cell
      simpa [Array.getD, hk'] using this
  · split at h
    case h_2 => cases h
    rename_i cs hcs
    split at h
    case isFalse => cases h
    rename_i hall
    simp only [Option.some.injEq, Prod.mk.injEq] at h
    obtain ⟨rfl, rfl⟩ := h
    obtain ⟨q1, q2, q3⟩ := catCells_rel (sz := P.cellsOf e) (vs := vparts.toList.map (·.2)) hcs (by simp [hl]) hval (fun x hx => by
      simp only [List.mem_map] at hx
      obtain ⟨⟨j, p⟩, hpm, rfl⟩ := hx
      have := List.all_eq_true.1 hall (j, p) hpm
      simp only [Option.any_eq_true, beq_iff_eq] at this
      obtain ⟨a, ha, hal⟩ := this
      exact ⟨a, ha, hal⟩)
    obtain ⟨r1, r2⟩ := rel_new hr ((vparts.toList.map (·.2)).flatMap fun v => v.cells.toList).toArray e cs (by rw [q3.1]; exact Nat.le_refl _) (fun i x hx => by
      have hlt : i < ((vparts.toList.map (·.2)).flatMap fun v => v.cells.toList).toArray.size := by rw [q3.1]; exact (List.getElem?_eq_some_iff.1 hx).1
      exact ⟨_, by simp only [Array.getElem?_eq_getElem hlt], q3.2 i x _ hx (Array.getElem?_eq_getElem hlt)⟩)
    refine ⟨_, _, _, hrun q1, ?_, r1, r2⟩
    have : n ≤ n * P.cellsOf e := Nat.le_mul_of_pos_right _ hpos
    exact .ref _ ⟨_, _, rfl⟩ (by simp [Hp.n_new]) ⟨Nat.le_refl _, by unfold maxLen; omega⟩ (fun _ => by simp [Gh.withC])
end build

def aCopy (P : Program) (H : Hp) (t : TypeId) (d s : AV) : Option (AV × Hp) :=
  match P.underlying t, d with
  | some (.slice e), .ref b off dl sz =>
    match H.f b, aElems P H e s with
    | some (.cells cs), some ys =>
      if sz = P.cellsOf e ∧ 0 < P.cellsOf e ∧ off + dl * sz ≤ cs.length then
        some (.p (.s (.int .i64 (min ys.length dl : Nat))), H.set b (.cells (setAt cs off ((flat (ys.take dl)).map .p)))) else none
    | _, _ => none
  | _, _ => none

def aLen (P : Program) (t : TypeId) (x : AV) : Option AV :=
  match P.underlying t with
  | some .string => match x with | .p (.s (.string s)) => some (.p (.s (.int .i64 s.size))) | _ => none
  | some (.slice _) =>
    match x with
    | .p (.sl _ _ xs) | .sl _ _ _ xs => some (.p (.s (.int .i64 xs.length)))
    | .ref _ _ len _ => some (.p (.s (.int .i64 len)))
    | .vr _ len _ => some (.p (.s (.int .i64 len)))
    | _ => none
  | some (.array n _) => some (.p (.s (.int .i64 n)))
  | some (.pointer a) => match P.underlying a with | some (.array n _) => some (.p (.s (.int .i64 n))) | _ => none
  | _ => none

def toBytes : List PV → Option (List UInt8)
  | [] => some []
  | .s (.int .u8 n) :: xs => (toBytes xs).map (UInt8.ofNat n.toNat :: ·)
  | _ => none

def aBytesStr (P : Program) (H : Hp) (s d : TypeId) (x : AV) : Option AV :=
  match P.underlying s, P.underlying d with
  | some (.slice e), some .string =>
    match P.underlying e with
    | some (.int .u8) => match (if P.cellsOf e = 1 then aElems P H e x else none) with
      | some ys => match x with
        | .p (.s _) => none
        | _ => (toBytes ys).map fun l => .p (.s (.string ⟨l.toArray⟩))
      | none => none
    | _ => none
  | _, _ => none

def aStrBytes (P : Program) (s d : TypeId) (x : AV) : Option AV :=
  match P.underlying s, P.underlying d, x with
  | some _, some (.slice e), .p (.s (.string str)) =>
    match P.underlying e with
    | some (.int .u8) => if str.size ≤ 9223372036854775806 then some (.p (.sl false 1 (str.data.toList.map fun b => .s (.int .u8 b.toNat)))) else none
    | _ => none
  | _, _, _ => none

section more
variable {P : Program} {G : Globs} {σ : Gh} {H : Hp} {w : World}

theorem aCopy_run {t u ty : TypeId} {d s y : AV} {H' : Hp} {vd vs : Value} (hr : Rel G σ H w) (h : aCopy P H t d s = some (y, H')) (hd : RelV σ H w d vd) (hs : RelV σ H w s vs) :
    ∃ v w' σ', (Builtin.copy_ #[t, u] ty #[vd, vs]).run P w = .ok v w' ∧ RelV σ' H' w' y v ∧ Rel G σ' H' w' ∧ Ev H.n σ H w σ' H' w' := by
  unfold aCopy at h
  split at h
  case h_2 => cases h
  rename_i e b off dl sz hu
  split at h
  case h_2 => cases h
  rename_i cs ys hb hys
  split at h
  case isFalse => cases h
  rename_i hc
  obtain ⟨rfl, hpos, hle⟩ := hc
  simp only [Option.some.injEq, Prod.mk.injEq] at h
  obtain ⟨rfl, rfl⟩ := h
  obtain ⟨news, hnl, hnsz, hnc, hnlen, hnf⟩ := aElems_run hr hys hs
  cases hd with | @ref _ _ _ _ cap a h0 hbn hcap ha =>
  have hmin : min ys.length dl ≤ ys.length := Nat.min_le_left _ _
  have hfc := hnf w rfl (min ys.length dl) hmin
  have htk : ∀ y ∈ ys.take dl, y.cells.length = P.cellsOf e := fun y hy => hnsz y (List.mem_of_mem_take hy)
  have hfl : (flat (ys.take dl)).length = min ys.length dl * P.cellsOf e := by rw [flat_len htk, List.length_take, Nat.min_comm]
  have hflt : ∀ (k : Nat) y, (flat (ys.take dl))[k]? = some y → (flat ys)[k]? = some y := fun k y hk => by
    have : flat ys = flat (ys.take dl) ++ flat (ys.drop dl) := by rw [← flat_append, List.take_append_drop]
    rw [this, List.getElem?_append_left (List.getElem?_eq_some_iff.1 hk).1]
    exact hk
  have hml : min ys.length dl * P.cellsOf e ≤ ys.length * P.cellsOf e := Nat.mul_le_mul_right _ hmin
  have hmd : min ys.length dl * P.cellsOf e ≤ dl * P.cellsOf e := Nat.mul_le_mul_right _ (Nat.min_le_right _ _)
  obtain ⟨w', h1, h2, h3⟩ := storeCells_rel (P := P) (σ := σ) hr (off := off) (xs := (flat (ys.take dl)).map .p) hb (news.take (min ys.length dl * P.cellsOf e)) (by rw [List.length_take, List.length_map, hfl]; omega) (by rw [List.length_map, hfl]; omega) (fun i y u hy hu => by
    simp only [List.getElem?_map, Option.map_eq_some_iff] at hy
    obtain ⟨p, hpp, rfl⟩ := hy
    have hi : i < min ys.length dl * P.cellsOf e := by rw [← hfl]; exact (List.getElem?_eq_some_iff.1 hpp).1
    rw [List.getElem?_take, if_pos hi] at hu
    have := hnc i p u (hflt i p hpp) hu
    exact ⟨.p this.1, this.2⟩)
  have hsz : (sizeOf e).run P w = .ok (P.cellsOf e) w := run_sizeOf_pos hpos
  have hst : (storeCells a (news.take (min ys.length dl * P.cellsOf e))).run P w = .ok () w' := by
    rcases Nat.eq_zero_or_pos dl with h0 | h0
    · subst h0
      simp only [Nat.min_zero, Nat.zero_mul, List.take_zero, storeCells, Sem.run_pure] at h1 ⊢
      exact h1
    · rw [ha h0]; exact h1
  refine ⟨goInt (min ys.length dl : Nat), w', σ, ?_, .p (.s _ rfl), h2, h3⟩
  have hfc' : (Builtin.firstCells (P.cellsOf e) (Nat.min ys.length dl) vs).run P w = .ok (news.take (min ys.length dl * P.cellsOf e)).toArray w := hfc
  simp [Builtin.copy_, run_underlying hu, hnlen, hsz, hfc', hst]

theorem aLen_run {t ty : TypeId} {x y : AV} {vx : Value} (h : aLen P t x = some y) (hx : RelV σ H w x vx) : ∃ v, (Builtin.len_ #[t] ty #[vx]).run P w = .ok v w ∧ RelV σ H w y v := by
  unfold aLen at h
  split at h
  case h_5 => cases h
  · rename_i hu
    split at h
    case h_2 => cases h
    rename_i s
    cases h
    obtain rfl : vx = .string s := by cases hx with | p hp => cases hp; rfl
    exact ⟨_, by simp [Builtin.len_, run_underlying hu]; rfl, .p (.s _ rfl)⟩
  · rename_i e hu
    have key : ∀ (base : Option Addr) (n c : Nat), vx = .slice base n c → ∃ v, (Builtin.len_ #[t] ty #[vx]).run P w = .ok v w ∧ RelV σ H w (.p (.s (.int .i64 n))) v := fun base n c hv => by
      subst hv
      exact ⟨_, by simp [Builtin.len_, run_underlying hu]; rfl, .p (.s _ rfl)⟩
    split at h
    case h_5 => cases h
    · cases h
      cases hx with | p hp =>
      cases hp with
      | nil => exact key none 0 0 rfl
      | sl => exact key _ _ _ rfl
    · cases h
      cases hx with | sl hp ht =>
      cases hp with
      | nil => exact key none 0 0 rfl
      | sl => exact key _ _ _ rfl
    · cases h
      cases hx with | ref a h0 hb hcap ha => exact key _ _ _ rfl
    · cases h
      cases hx with | vr hx => obtain ⟨_, a, cap, rfl, _⟩ := hx; exact key _ _ _ rfl
  · rename_i n e hu
    cases h
    exact ⟨_, by simp [Builtin.len_, run_underlying hu]; rfl, .p (.s _ rfl)⟩
  · rename_i a hu
    split at h
    case h_2 => cases h
    rename_i n e hu2
    cases h
    exact ⟨_, by simp [Builtin.len_, run_underlying hu, run_underlying hu2]; rfl, .p (.s _ rfl)⟩

theorem toBytes_vals {S : Nat → Nat → Prop} : ∀ {ys : List PV} {l : List UInt8} {vs : List Value}, toBytes ys = some l → vs.length = ys.length → (∀ (k : Nat) y u, ys[k]? = some y → vs[k]? = some u → RelP w S y u) →
    ∃ ns : List Int, vs = ns.map (Value.int .u8) ∧ ∀ r : ByteArray, ns.foldl (fun r n => r.push (UInt8.ofNat n.toNat)) r = ⟨r.data ++ l.toArray⟩
  | [], l, vs, h, hl, _ => by
    simp only [toBytes, Option.some.injEq] at h; subst h
    have : vs = [] := List.eq_nil_of_length_eq_zero hl
    subst this
    exact ⟨[], rfl, fun r => by simp⟩
  | y :: ys, l, [], h, hl, _ => by simp at hl
  | y :: ys, l, v :: vs, h, hl, hr => by
    unfold toBytes at h
    split at h
    · rename_i hh; cases hh
    · rename_i n xs heq
      cases heq
      cases hb : toBytes ys with
      | none => simp [hb] at h
      | some l' =>
        simp only [hb, Option.map_some, Option.some.injEq] at h
        subst h
        obtain ⟨ns, h1, h2⟩ := toBytes_vals hb (by simpa using hl) (fun k y u a b => hr (k + 1) y u (by simpa using a) (by simpa using b))
        have := hr 0 (.s (.int .u8 n)) v (by simp) (by simp)
        cases this
        refine ⟨n :: ns, by simp [h1], fun r => ?_⟩
        rw [List.foldl_cons, h2]
        congr 1
        apply Array.ext'
        simp [ByteArray.push]
    · cases h

theorem aBytesStr_run {s d : TypeId} {x y : AV} {vx : Value} (hr : Rel G σ H w) (h : aBytesStr P H s d x = some y) (hx : RelV σ H w x vx) : ∃ v, (convert s d vx).run P w = .ok v w ∧ RelV σ H w y v := by
  unfold aBytesStr at h
  split at h
  case h_2 => cases h
  rename_i e hs hd
  split at h
  case h_2 => cases h
  rename_i he
  split at h
  case h_2 => cases h
  rename_i ys hys
  split at hys
  case isFalse => cases hys
  rename_i hone
  split at h
  · cases h
  rename_i hns
  obtain ⟨news, hnl, hnsz, hnc, hnlen, hnf⟩ := aElems_run hr hys hx
  cases hb : toBytes ys with
  | none => simp [hb] at h
  | some l =>
    simp only [hb, Option.map_some, Option.some.injEq] at h
    subst h
    have hflat : ∀ (ys : List PV) (l : List UInt8), toBytes ys = some l → flat ys = ys := by
      intro ys
      induction ys with
      | nil => intro _ _; rfl
      | cons a t ih =>
        intro l h
        unfold toBytes at h
        split at h
        · rename_i hh; cases hh
        · rename_i n xs heq; cases heq
          cases hb : toBytes t with
          | none => simp [hb] at h
          | some l' => simp only [flat, List.flatMap_cons, PV.cells, List.singleton_append]; rw [show List.flatMap PV.cells t = t from ih l' hb]
        · cases h
    have hfl := hflat ys l hb
    rw [hfl] at hnc
    obtain ⟨ns, h1, h2⟩ := toBytes_vals hb (by rw [hnl, hone, Nat.mul_one]) (fun k y u a b => (hnc k y u a b).1)
    have hsl : ∃ base n c, vx = .slice base n c ∧ (base = none → n = 0 ∧ ys = []) := by
      cases hx with
      | p hp =>
        cases hp with
        | s _ h1 => exact absurd rfl (hns _)
        | agg => simp [aElems] at hys
        | nil => exact ⟨none, 0, 0, rfl, fun _ => ⟨rfl, by simp [aElems] at hys; exact hys⟩⟩
        | sl => exact ⟨_, _, _, rfl, by simp⟩
      | sl hp ht =>
        cases hp with
        | nil => exact ⟨none, 0, 0, rfl, fun _ => ⟨rfl, by simp [aElems] at hys; exact hys⟩⟩
        | sl => exact ⟨_, _, _, rfl, by simp⟩
      | ref a h0 hb hcap ha => exact ⟨_, _, _, rfl, by simp⟩
      | @vr b len sz _ hv =>
        obtain ⟨_, a, cap, rfl, hs1, _⟩ := hv
        refine ⟨a, _, _, rfl, fun ha => ?_⟩
        have h0 : len = 0 := by
          rcases Nat.eq_zero_or_pos len with h | h
          · exact h
          · have := hs1.1 h; rw [ha] at this; cases this
        subst h0
        refine ⟨rfl, ?_⟩
        simp only [aElems] at hys
        split at hys
        · split at hys
          · simpa [refElems] using hys.symm
          · cases hys
        · cases hys
      | _ => simp [aElems] at hys
    obtain ⟨base, n, c, rfl, hbase⟩ := hsl
    have hn : n = ys.length := by have := hnlen w; simpa [Builtin.lenOf] using this
    refine ⟨.string ⟨l.toArray⟩, ?_, .p (.s _ rfl)⟩
    simp only [convert, Sem.run_bind, run_underlying hs, run_underlying hd, Result.andThen_ok, run_underlying he]
    cases base with
    | none =>
      obtain ⟨_, hy⟩ := hbase rfl
      subst hy
      simp only [toBytes, Option.some.injEq] at hb
      subst hb
      simp [Conv.bytesToString]
      rfl
    | some a =>
      have hld := hnf w rfl ys.length (Nat.le_refl _)
      rw [hone] at hld
      simp only [Builtin.firstCells, Nat.mul_one] at hld
      rw [show news.take ys.length = ns.map (Value.int .u8) by rw [← h1]; rw [hone] at hnl; simp only [Nat.mul_one] at hnl; rw [← hnl]; exact List.take_length] at hld
      rw [hn, run_bytesToString w a ys.length c ns hld, h2]
      have he0 : ByteArray.empty.data = #[] := rfl
      rw [he0, Array.empty_append]

theorem aStrBytes_run {s d : TypeId} {x y : AV} {vx : Value} (hr : Rel G σ H w) (h : aStrBytes P s d x = some y) (hx : RelV σ H w x vx) :
    ∃ v w', (convert s d vx).run P w = .ok v w' ∧ RelV σ H w' y v ∧ Rel G σ H w' ∧ Ev H.n σ H w σ H w' := by
  unfold aStrBytes at h
  split at h
  case h_2 => cases h
  rename_i ds e str hs hd
  split at h
  case h_2 => cases h
  rename_i he
  split at h
  case isFalse => cases h
  rename_i hle
  cases h
  obtain rfl : vx = .string str := by cases hx with | p hp => cases hp; rfl
  let cap := (Question.appendCap str.size 0 e).cut (w.tape w.drawn (.appendCap str.size 0 e))
  let row : Array Value := (str.data.map fun b => Value.int .u8 b.toNat) ++ Array.replicate (cap - str.size) (.int .u8 0)
  let w1 := w.drew.alloc (.cells row e)
  have hge : str.size ≤ cap := by simp [cap, Question.cut]
  have hcm : cap ≤ maxLen := by
    have hlt := Nat.mod_lt (w.tape w.drawn (.appendCap str.size 0 e)) (show 0 < 2 ^ 63 - str.size by omega)
    simp only [cap, Question.cut, maxLen] at hlt ⊢
    omega
  have hshape : w1.shape? w.heap.size = some (e, row.size) := by
    have : w1.heap[w.heap.size]? = some (.cells row e) := heap_alloc_new w.drew _
    simp [World.shape?, this]
  have hrun : (convert s d (.string str)).run P w = .ok (.slice (some ⟨w.heap.size, 0, none⟩) str.size cap) (w1.freeze ⟨w.heap.size, row.size, none⟩ 1) := by
    have hsne : ∀ (α : Type) (x y : α), x = y → x = y := fun _ _ _ h => h
    simp only [convert, Sem.run_bind, run_underlying hs, run_underlying hd, Result.andThen_ok, run_underlying he, Conv.stringToBytes, run_choose, Question.forced, Bool.false_eq_true, if_false]
    simp only [newRow, Sem.run_bind, run_newObj, Result.andThen_ok, Sem.run_pure, markStringish, run_shape]
    rw [show ({ ({ w with drawn := w.drawn + 1 } : World) with heap := ({ w with drawn := w.drawn + 1 } : World).heap.push (.cells row e) } : World) = w1 from rfl]
    rw [show ({ w with drawn := w.drawn + 1 } : World).heap.size = w.heap.size from rfl, hshape]
    simp only [Sem.run_bind, run_freeze, Result.andThen_ok, Sem.run_pure]
    rfl
  have hheap : ∀ g, g < w.heap.size → (w1.freeze ⟨w.heap.size, row.size, none⟩ 1).heap[g]? = w.heap[g]? := fun g hg => by
    have h1 : w1.heap[g]? = w.heap[g]? := heap_alloc_old w.drew _ hg
    simp only [World.freeze, Nat.one_ne_zero, if_false, Array.getElem?_modify]
    rw [if_neg (by show ¬ (w.heap.size = g); omega)]
    exact h1
  obtain ⟨h1, h2⟩ := rel_grow (G := G) (σ := σ) (H := H) hr (w' := w1.freeze ⟨w.heap.size, row.size, none⟩ 1) (by simp [World.freeze, w1]) hheap (by simp [World.freeze, w1]; rfl) (by simp [World.freeze, w1]; rfl)
  refine ⟨_, _, hrun, .p ?_, h1, h2⟩
  have hst : ∀ o, Stable σ H w.heap.size o := fun o => ⟨fun b cs hb => by have := hr.c_lt hb; omega, fun b k d o' s hb ht => by have := hr.t_lt hb ht; omega⟩
  have hcell : ∀ k, (w1.freeze ⟨w.heap.size, row.size, none⟩ 1).cell? ⟨w.heap.size, k, none⟩ = row[k]? := fun k => by
    have : w1.heap[w.heap.size]? = some (.cells row e) := heap_alloc_new w.drew _
    simp [World.freeze, World.cell?, Array.getElem?_modify, this]
  have hfl : flat (str.data.toList.map fun b => (.s (.int .u8 b.toNat) : PV)) = str.data.toList.map fun b => (.s (.int .u8 b.toNat) : PV) := by
    generalize str.data.toList = l
    induction l with
    | nil => rfl
    | cons a l ih => simp only [flat, List.map_cons, List.flatMap_cons, PV.cells, List.singleton_append] at *; rw [ih]
  have hlen : (str.data.toList.map fun b => (.s (.int .u8 b.toNat) : PV)).length = str.size := by simp
  have := RelP.sl (w := w1.freeze ⟨w.heap.size, row.size, none⟩ 1) (S := Stable σ H) false 1 (str.data.toList.map fun b => (.s (.int .u8 b.toNat) : PV)) w.heap.size 0 cap (fun k => .int .u8 (str.data.toList.getD k 0).toNat) (by simp) ⟨by rw [hlen]; exact hge, hcm⟩
    (fun x hx => by simp at hx; obtain ⟨b, _, rfl⟩ := hx; rfl) (fun k hk => by
      rw [hlen, Nat.mul_one] at hk
      refine ⟨hst _, ?_, rfl⟩
      rw [Nat.zero_add, hcell]
      have hk' : k < str.data.size := hk
      simp [row, Array.getElem?_append, hk, List.getD_eq_getElem?_getD]) (fun k y hk => by
      rw [hfl] at hk
      simp only [List.getElem?_map, Option.map_eq_some_iff] at hk
      obtain ⟨b, hb, rfl⟩ := hk
      simp only [List.getD_eq_getElem?_getD, hb, Option.getD_some]
      exact .s _ rfl)
  rw [hlen] at this
  exact this
end more

end Go.AL
