/-
  make, composite literals, copy, slicing, len, and bytes to strings and back, on abstract values.
  Conditions: none; nothing here speaks of one program.
-/
import Derived.Test.YtkpeknkpleocgaaDoorEngG
import Derived.Great.FillDense
import Derived.Great.BuildSlice
set_option linter.unusedSimpArgs false
set_option linter.unusedVariables false
namespace Go.AL
open Go

/-- n times the cells of a zero value. -/
def zrows (n : Nat) (ps : List PV) : List PV := (List.replicate n ps).flatten

theorem zrows_one (n : Nat) (p : PV) : zrows n [p] = List.replicate n p := by
  unfold zrows
  induction n with
  | zero => rfl
  | succ n ih => simp [List.replicate_succ, ih]

theorem zrows_len (n : Nat) (ps : List PV) : (zrows n ps).length = n * ps.length := by simp [zrows]

theorem zrows_get : ∀ (n : Nat) (ps : List PV) (i : Nat), i < n * ps.length → (zrows n ps)[i]? = ps[i % ps.length]?
  | 0, ps, i, h => by simp at h
  | n + 1, ps, i, h => by
    simp only [zrows, List.replicate_succ, List.flatten_cons]
    by_cases hi : i < ps.length
    · rw [List.getElem?_append_left hi, Nat.mod_eq_of_lt hi]
    · rw [List.getElem?_append_right (by omega)]
      have hlt : i - ps.length < n * ps.length := by rw [Nat.succ_mul] at h; omega
      have := zrows_get n ps (i - ps.length) hlt
      simp only [zrows] at this
      rw [this]
      congr 1
      have hle : ps.length ≤ i := by omega
      exact (Nat.mod_eq_sub_mod hle).symm

/-- make, with a length that is not the literal 0; the room behind the length is not told. -/
def aMake (P : Program) (H : Hp) (t : TypeId) (l c : AV) : Option (AV × Hp) :=
  match P.underlying t, l.int?, c.int? with
  | some (.slice e), some n, some m =>
    match azero P e with
    | some ps => if 0 ≤ n ∧ n ≤ m ∧ m * P.bytesOf e ≤ 140737488355328 ∧ m ≤ 9223372036854775807 ∧ ps.length = P.cellsOf e ∧ 0 < P.cellsOf e then
        some (.ref H.n 0 n.toNat (P.cellsOf e), H.new (.cells ((zrows n.toNat ps).map .p))) else none
    | none => none
  | _, _, _ => none

/-- make, with length 0: an empty slice whose holder may append. -/
def aMake0 (P : Program) (H : Hp) (t : TypeId) (l c : AV) : Option (AV × Hp) :=
  match P.underlying t, l.int?, c.int? with
  | some (.slice e), some n, some m =>
    if n = 0 ∧ 0 ≤ m ∧ m * P.bytesOf e ≤ 140737488355328 ∧ m ≤ 9223372036854775807 ∧ zfits P e then some (.sl H.n 0 (P.cellsOf e) [], H.new (.tail 0)) else none
  | _, _, _ => none

section make
variable {P : Program} {G : Globs} {σ : Gh} {H : Hp} {w : World}

theorem madeCells_get {z : Array Value} {n i : Nat} (h : i < n) (hz : 0 < z.size) : (madeCells z n)[i]? = z[i % z.size]? := by
  have hm : i % z.size < z.size := Nat.mod_lt _ hz
  simp [madeCells, h, hm]

theorem aMake_run {t : TypeId} {l c y : AV} {H' : Hp} {vl vc : Value} (hr : Rel G σ H w) (h : aMake P H t l c = some (y, H')) (hl : RelV σ H w l vl) (hc : RelV σ H w c vc) :
    ∃ v w' σ', (Instr.makeSlice t vl vc).run P w = .ok v w' ∧ RelV σ' H' w' y v ∧ Rel G σ' H' w' ∧ Ev H.n σ H w σ' H' w' := by
  unfold aMake at h
  split at h
  case h_2 => cases h
  rename_i e n m hu hn hm
  split at h
  case h_2 => cases h
  rename_i ps hps
  split at h
  case isFalse => cases h
  rename_i hcond
  obtain ⟨h0, hnm, hb, h63, hpl, hpos⟩ := hcond
  simp only [Option.some.injEq, Prod.mk.injEq] at h
  obtain ⟨rfl, rfl⟩ := h
  obtain ⟨kl, rfl⟩ := AV.int?_inv hn hl
  obtain ⟨kc, rfl⟩ := AV.int?_inv hm hc
  obtain ⟨z, _, hz, hzs, hzz⟩ := azero_run (w := w) (S := Stable σ H) hps
  obtain ⟨i, hi⟩ : ∃ i, P.info? e = some i := by
    cases hh : P.info? e with
    | none => simp [hh] at hz
    | some i => exact ⟨i, rfl⟩
  have hiz : i.zero = some z := by simpa [hi] using hz
  have his : i.size = P.cellsOf e := by simp [Program.cellsOf, hi]
  have hib : (i.bytes : Int) = P.bytesOf e := by simp [Program.bytesOf, hi]
  have hrun := run_make (P := P) w t e i z hu hi hiz kl kc n m h0 hnm (by rw [hib, Int.mul_comm]; omega) h63
  have hml : n.toNat * P.cellsOf e ≤ m.toNat * P.cellsOf e := Nat.mul_le_mul_right _ (by omega)
  have hzpos : 0 < z.cells.size := by omega
  obtain ⟨h1, h2⟩ := rel_new hr (madeCells z.cells (m.toNat * i.size)) e ((zrows n.toNat ps).map .p) (by simp [size_madeCells, zrows_len, his, hpl]; exact hml) (fun j y hy => by
    simp only [List.getElem?_map, Option.map_eq_some_iff] at hy
    obtain ⟨p, hp, rfl⟩ := hy
    have hj : j < n.toNat * ps.length := by rw [← zrows_len]; exact (List.getElem?_eq_some_iff.1 hp).1
    rw [zrows_get _ _ _ hj] at hp
    have hjm : j < m.toNat * i.size := by rw [his, ← hpl]; rw [hpl] at hj ⊢; omega
    have hmod : j % z.cells.size < z.cells.size := Nat.mod_lt _ hzpos
    refine ⟨z.cells[j % z.cells.size], by rw [madeCells_get hjm hzpos]; simp [hmod], ?_⟩
    rw [← hzs] at hp
    have := hzz _ p z.cells[j % z.cells.size] hp (by simp [hmod])
    exact ⟨.p this.1, this.2⟩)
  refine ⟨_, _, _, hrun, ?_, h1, h2⟩
  exact .ref _ ⟨_, _, rfl⟩ (by simp [Hp.n_new]) ⟨by omega, by unfold maxLen; omega⟩ (fun _ => by simp [Gh.withC])

theorem aMake0_run {t : TypeId} {l c y : AV} {H' : Hp} {vl vc : Value} (hr : Rel G σ H w) (h : aMake0 P H t l c = some (y, H')) (hl : RelV σ H w l vl) (hc : RelV σ H w c vc) :
    ∃ v w' σ', (Instr.makeSlice t vl vc).run P w = .ok v w' ∧ RelV σ' H' w' y v ∧ Rel G σ' H' w' ∧ Ev H.n σ H w σ' H' w' := by
  unfold aMake0 at h
  split at h
  case h_2 => cases h
  rename_i e n m hu hn hm
  split at h
  case isFalse => cases h
  rename_i hcond
  obtain ⟨rfl, hnm, hb, h63, hzf⟩ := hcond
  simp only [Option.some.injEq, Prod.mk.injEq] at h
  obtain ⟨rfl, rfl⟩ := h
  obtain ⟨kl, rfl⟩ := AV.int?_inv hn hl
  obtain ⟨kc, rfl⟩ := AV.int?_inv hm hc
  have hps : ∃ ps, azero P e = some ps := by
    unfold zfits at hzf
    split at hzf
    · rename_i ps hps; exact ⟨ps, hps⟩
    · cases hzf
  obtain ⟨ps, hps⟩ := hps
  obtain ⟨z, _, hz, hzs, hzz⟩ := azero_run (w := w) (S := Stable σ H) hps
  obtain ⟨i, hi⟩ : ∃ i, P.info? e = some i := by
    cases hh : P.info? e with
    | none => simp [hh] at hz
    | some i => exact ⟨i, rfl⟩
  have hiz : i.zero = some z := by simpa [hi] using hz
  have his : i.size = P.cellsOf e := by simp [Program.cellsOf, hi]
  have hib : (i.bytes : Int) = P.bytesOf e := by simp [Program.bytesOf, hi]
  have hrun := run_make (P := P) w t e i z hu hi hiz kl kc 0 m (Int.le_refl _) hnm (by rw [hib, Int.mul_comm]; omega) h63
  obtain ⟨h1, h2⟩ := rel_newTail (G := G) (σ := σ) (H := H) (w := w) hr (w' := w.alloc (.cells (madeCells z.cells (m.toNat * i.size)) e)) (by simp) (fun g hg => heap_alloc_old w _ hg) rfl rfl
    (some (w.heap.size, 0, m.toNat * P.cellsOf e)) (fun g o s hh => by cases hh; exact ⟨Nat.le_refl _, _, e, heap_alloc_new w _, by rw [size_madeCells, his]⟩)
  refine ⟨_, _, _, hrun, .sl ?_ ⟨by simp [Hp.n_new], fun k0 d hk0 => ?_⟩, h1, h2⟩
  · exact .sl false _ [] _ 0 _ (fun _ => undef) (by simp) ⟨by simp, by unfold maxLen; omega⟩ (by simp) (by simp) (by simp [flat])
  · simp [Hp.f_new] at hk0
    exact ⟨by omega, fun _ => .inr ⟨w.heap.size, 0, 0, m.toNat, m.toNat * P.cellsOf e, by simp, by simp [Gh.withT], by omega⟩⟩
end make

/-- Parts put into a row of cells. -/
def fillA (place : Nat → Option (Nat × Nat)) : List AV → List (Nat × AV) → Option (List AV)
  | cells, [] => some cells
  | cells, (i, x) :: rest =>
    match place i, acells x with
    | some (off, size), some cs => if cs.length = size ∧ off + size ≤ cells.length then fillA place (setAt cells off cs) rest else none
    | _, _ => none

def structPlace (P : Program) (fields : Array Field) (i : Nat) : Option (Nat × Nat) := (fields[i]?).bind fun f => if (P.info? f.type).isSome then some (f.offset, P.cellsOf f.type) else none

def aBuild (P : Program) (t : TypeId) (parts : List (Nat × AV)) : Option AV :=
  match P.underlying t, azero P t with
  | some (.struct fields), some ps => if fields.all fun f => (P.info? f.type).isSome then (fillA (structPlace P fields) (ps.map .p) parts).map mkAgg else none
  | some (.array _ e), some ps => if (P.info? e).isSome then (fillA (fun i => some (i * P.cellsOf e, P.cellsOf e)) (ps.map .p) parts).map mkAgg else none
  | _, _ => none

section build
variable {P : Program} {G : Globs} {σ : Gh} {H : Hp} {w : World}

def RowRel (σ : Gh) (H : Hp) (w : World) (cs : List AV) (vs : Array Value) : Prop := vs.size = cs.length ∧ ∀ (i : Nat) x v, cs[i]? = some x → vs[i]? = some v → RelC σ H w x v

theorem fill_rel {place : Nat → Option (Nat × Nat)} : ∀ {parts : List (Nat × AV)} {vparts : List (Nat × Value)} {cells : List AV} {vcells : Array Value} {r : List AV}, fillA place cells parts = some r →
    RowRel σ H w cells vcells → vparts.length = parts.length → (∀ (k : Nat) i x j v, parts[k]? = some (i, x) → vparts[k]? = some (j, v) → j = i ∧ RelV σ H w x v) → ∃ vr, Instr.fill place vcells vparts = some vr ∧ RowRel σ H w r vr
  | [], vparts, cells, vcells, r, h, hrow, hl, _ => by
    simp only [fillA, Option.some.injEq] at h
    subst h
    have : vparts = [] := List.eq_nil_of_length_eq_zero hl
    subst this
    exact ⟨vcells, rfl, hrow⟩
  | (i, x) :: rest, vparts, cells, vcells, r, h, hrow, hl, hp => by
    cases vparts with
    | nil => simp at hl
    | cons jv vrest =>
      obtain ⟨j, v⟩ := jv
      obtain ⟨rfl, hx⟩ := hp 0 i x j v (by simp) (by simp)
      simp only [fillA] at h
      split at h
      case h_2 => cases h
      rename_i off size cs hpl hcs
      split at h
      case isFalse => cases h
      rename_i hc
      obtain ⟨hcl, hle⟩ := hc
      obtain ⟨hs, hcc⟩ := acells_rel hcs hx
      have hfold := Great.foldl_set off v.cells.toList 0 vcells
      have heq : v.cells.zipIdx.foldl (fun cs (x : Value × Nat) => cs.setIfInBounds (off + x.2) x.1) vcells = v.cells.toList.zipIdx.foldl (fun cs (x : Value × Nat) => cs.setIfInBounds (off + x.2) x.1) vcells := by
        rw [← Array.foldl_toList, Array.toList_zipIdx]
      obtain ⟨hf1, hf2⟩ := hfold
      rw [← heq] at hf1 hf2
      obtain ⟨vr, hvr, hrr⟩ := fill_rel (parts := rest) (vparts := vrest) (vcells := v.cells.zipIdx.foldl (fun cs (x : Value × Nat) => cs.setIfInBounds (off + x.2) x.1) vcells) h
        ⟨by rw [hf1, setAt_len _ _ _ (by omega), hrow.1], fun k y u hy hu => by
          rw [hf2 k] at hu
          rw [setAt_eq _ _ _ (by omega)] at hy
          have hvs := hrow.1
          simp only [Nat.add_zero, Array.length_toList, Array.getElem?_toList] at hu
          by_cases h1 : k < off
          · rw [if_neg (by omega)] at hu
            rw [List.append_assoc, List.getElem?_append_left (by simp; omega), List.getElem?_take, if_pos h1] at hy
            exact hrow.2 k y u hy hu
          · have hm : min off cells.length = off := by omega
            by_cases h2 : k < off + cs.length
            · rw [if_pos ⟨by omega, by omega, by omega⟩] at hu
              rw [List.append_assoc, List.getElem?_append_right (by simp; omega), List.getElem?_append_left (by simp only [List.length_take, hm]; omega)] at hy
              simp only [List.length_take, hm] at hy
              exact hcc _ y u hy hu
            · rw [if_neg (by omega)] at hu
              rw [List.getElem?_append_right (by simp; omega)] at hy
              simp only [List.length_append, List.length_take, hm, List.getElem?_drop] at hy
              rw [show off + cs.length + (k - (off + cs.length)) = k by omega] at hy
              exact hrow.2 k y u hy hu⟩
        (by simpa using hl) (fun k i x j v h1 h2 => hp (k + 1) i x j v (by simpa using h1) (by simpa using h2))
      refine ⟨vr, ?_, hrr⟩
      have hvs := hrow.1
      simp only [Instr.fill, hpl]
      rw [if_neg (by simp; omega)]
      exact hvr

theorem aBuild_run {t : TypeId} {parts : List (Nat × AV)} {vparts : Array (Nat × Value)} {y : AV} (h : aBuild P t parts = some y)
    (hl : vparts.size = parts.length) (hp : ∀ (k : Nat) i x j v, parts[k]? = some (i, x) → vparts[k]? = some (j, v) → j = i ∧ RelV σ H w x v) :
    ∃ v, (Instr.build t vparts).run P w = .ok v w ∧ RelV σ H w y v := by
  have hp' : ∀ (k : Nat) i x j v, parts[k]? = some (i, x) → vparts.toList[k]? = some (j, v) → j = i ∧ RelV σ H w x v := fun k i x j v h1 h2 => hp k i x j v h1 (by simpa using h2)
  unfold aBuild at h
  split at h
  case h_3 => cases h
  · rename_i fields ps hu hz
    split at h
    case isFalse => cases h
    rename_i hall
    obtain ⟨z, hz1, _, hzs, hzz⟩ := azero_run (w := w) (S := Stable σ H) hz
    cases hf : fillA (structPlace P fields) (ps.map .p) parts with
    | none => simp [hf] at h
    | some r =>
      simp only [hf, Option.map_some, Option.some.injEq] at h
      subst h
      obtain ⟨vr, hvr, hrr⟩ := fill_rel (σ := σ) (H := H) (w := w) (vparts := vparts.toList) (vcells := z.cells) hf ⟨by simp [hzs], fun k x u hx hu => by
        simp only [List.getElem?_map, Option.map_eq_some_iff] at hx
        obtain ⟨p, hp, rfl⟩ := hx
        have := hzz k p u hp hu
        exact ⟨.p this.1, this.2⟩⟩ (by simp [hl]) hp'
      have hmap : (fields.mapM fun f => do pure (f.offset, ← sizeOf f.type) : Sem (Array (Nat × Nat))).run P w = .ok (fields.map fun f => (f.offset, P.cellsOf f.type)) w := by
        have key : ∀ (l : List Field), (∀ f ∈ l, (P.info? f.type).isSome = true) → (l.mapM fun f => do pure (f.offset, ← sizeOf f.type) : Sem (List (Nat × Nat))).run P w = .ok (l.map fun f => (f.offset, P.cellsOf f.type)) w := by
          intro l
          induction l with
          | nil => intro _; simp
          | cons f l ih =>
            intro hl
            obtain ⟨i, hi⟩ := Option.isSome_iff_exists.1 (hl f (by simp))
            have hs : (sizeOf f.type).run P w = .ok (P.cellsOf f.type) w := by simp [sizeOf, typeInfo, hi, Program.cellsOf]
            simp only [List.mapM_cons, Sem.run_bind, hs, Result.andThen_ok, Sem.run_pure, ih (fun g hg => hl g (by simp [hg])), List.map_cons]
        have hk := key fields.toList (fun f hf => by
          have := Array.all_eq_true_iff_forall_mem.1 hall f (by simpa using hf)
          exact this)
        rw [Array.mapM_eq_mapM_toList, Sem.run_map, hk, Result.andThen_ok, ← Array.toList_map, Array.toArray_toList]
      have hplace : (fun i => (fields.map fun f => (f.offset, P.cellsOf f.type))[i]?) = structPlace P fields := by
        funext i
        simp only [Array.getElem?_map, structPlace]
        cases hfi : fields[i]? with
        | none => rfl
        | some f =>
          have := Array.all_eq_true_iff_forall_mem.1 hall f (Array.mem_of_getElem? hfi)
          simp [this]
      refine ⟨.agg vr, ?_, mkAgg_rel hrr.1 (fun i v hv => ?_) (fun i x v hx hv => (hrr.2 i x v hx hv).1)⟩
      · simp only [Instr.build, Sem.run_bind, hz1, Result.andThen_ok, run_underlying hu, hmap]
        rw [hplace, hvr]
        rfl
      · have hlt : i < r.length := by rw [← hrr.1]; exact (Array.getElem?_eq_some_iff.1 hv).1
        exact (hrr.2 i r[i] v (by simp) hv).2
  · rename_i n e ps hu hz
    split at h
    case isFalse => cases h
    rename_i hsome
    obtain ⟨ie, hie⟩ := Option.isSome_iff_exists.1 hsome
    obtain ⟨z, hz1, _, hzs, hzz⟩ := azero_run (w := w) (S := Stable σ H) hz
    cases hf : fillA (fun i => some (i * P.cellsOf e, P.cellsOf e)) (ps.map .p) parts with
    | none => simp [hf] at h
    | some r =>
      simp only [hf, Option.map_some, Option.some.injEq] at h
      subst h
      obtain ⟨vr, hvr, hrr⟩ := fill_rel (σ := σ) (H := H) (w := w) (vparts := vparts.toList) (vcells := z.cells) hf ⟨by simp [hzs], fun k x u hx hu => by
        simp only [List.getElem?_map, Option.map_eq_some_iff] at hx
        obtain ⟨p, hp, rfl⟩ := hx
        have := hzz k p u hp hu
        exact ⟨.p this.1, this.2⟩⟩ (by simp [hl]) hp'
      have hs : (sizeOf e).run P w = .ok (P.cellsOf e) w := by simp [sizeOf, typeInfo, hie, Program.cellsOf]
      refine ⟨.agg vr, ?_, mkAgg_rel hrr.1 (fun i v hv => ?_) (fun i x v hx hv => (hrr.2 i x v hx hv).1)⟩
      · simp only [Instr.build, Sem.run_bind, hz1, Result.andThen_ok, run_underlying hu, hs]
        rw [hvr]
        rfl
      · have hlt : i < r.length := by rw [← hrr.1]; exact (Array.getElem?_eq_some_iff.1 hv).1
        exact (hrr.2 i r[i] v (by simp) hv).2
end build

end Go.AL
