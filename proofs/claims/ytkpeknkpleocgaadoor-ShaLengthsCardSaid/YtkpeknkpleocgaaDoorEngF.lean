/-
  Operations that make or write memory, on abstract values: what they come to, and that the machine's do.
  Conditions: none; nothing here speaks of one program.
-/
import Derived.Test.YtkpeknkpleocgaaDoorEngE
set_option linter.unusedSimpArgs false
set_option linter.unusedVariables false
namespace Go.AL
open Go

/-- The cells of a value. -/
def acells : AV → Option (List AV)
  | .p (.agg xs) => some (xs.map .p)
  | .agg xs => some xs
  | .tup _ | .top => none
  | x => some [x]

def setAt (cs : List AV) (off : Nat) (xs : List AV) : List AV :=
  match xs with
  | [x] => cs.set off x
  | xs => cs.take off ++ xs ++ cs.drop (off + xs.length)

theorem setAt_eq (cs : List AV) (off : Nat) (xs : List AV) (h : off + xs.length ≤ cs.length) : setAt cs off xs = cs.take off ++ xs ++ cs.drop (off + xs.length) := by
  unfold setAt
  split
  · rename_i x
    have hlt : off < cs.length := by simp at h; omega
    rw [List.set_eq_take_append_cons_drop, if_pos hlt]
    simp
  · rfl

theorem setAt_len (cs : List AV) (off : Nat) (xs : List AV) (h : off + xs.length ≤ cs.length) : (setAt cs off xs).length = cs.length := by
  rw [setAt_eq _ _ _ h]; simp; omega

section cells
variable {P : Program} {G : Globs} {σ : Gh} {H : Hp} {w : World}

theorem acells_rel {x : AV} {cs : List AV} {v : Value} (h : acells x = some cs) (r : RelV σ H w x v) :
    v.cells.size = cs.length ∧ ∀ (i : Nat) y u, cs[i]? = some y → v.cells[i]? = some u → RelC σ H w y u := by
  have one : v.cells = #[v] → v.oneCell' = true → cs = [x] → v.cells.size = cs.length ∧ ∀ (i : Nat) y u, cs[i]? = some y → v.cells[i]? = some u → RelC σ H w y u := by
    intro h1 h2 h3
    rw [h1, h3]
    refine ⟨rfl, fun i y u hy hu => ?_⟩
    cases i with
    | zero => simp at hy hu; subst hy; subst hu; exact ⟨r, h2⟩
    | succ i => simp at hy
  cases r with
  | p hp =>
    cases hp with
    | s v h1 =>
      simp only [acells, Option.some.injEq] at h
      exact one (by cases v <;> first | rfl | simp [Value.oneCell'] at h1) h1 h.symm
    | agg xs vs hl h1 hh =>
      simp only [acells, Option.some.injEq] at h
      subst h
      refine ⟨by simp [Value.cells, hl], fun i y u hy hu => ?_⟩
      simp only [Value.cells] at hu
      simp only [List.getElem?_map, Option.map_eq_some_iff] at hy
      obtain ⟨z, hz, rfl⟩ := hy
      exact ⟨.p (hh i z u hz hu), h1 i u hu⟩
    | nil => simp only [acells, Option.some.injEq] at h; exact one rfl rfl h.symm
    | sl => simp only [acells, Option.some.injEq] at h; exact one rfl rfl h.symm
  | sl hp ht => simp only [acells, Option.some.injEq] at h; cases hp <;> exact one rfl rfl h.symm
  | ref => simp only [acells, Option.some.injEq] at h; exact one rfl rfl h.symm
  | ptr => simp only [acells, Option.some.injEq] at h; exact one rfl rfl h.symm
  | ip => simp only [acells, Option.some.injEq] at h; exact one rfl rfl h.symm
  | clo => simp only [acells, Option.some.injEq] at h; exact one rfl rfl h.symm
  | tup => simp [acells] at h
  | agg vs hl h1 hh =>
    simp only [acells, Option.some.injEq] at h
    subst h
    exact ⟨hl, fun i y u hy hu => ⟨hh i y u hy hu, h1 i u hu⟩⟩
  | yld => simp only [acells, Option.some.injEq] at h; exact one rfl rfl h.symm
  | vr hp => simp only [acells, Option.some.injEq] at h; obtain ⟨_, a, cap, rfl, _⟩ := hp; exact one rfl rfl h.symm
  | vp => simp only [acells, Option.some.injEq] at h; exact one rfl rfl h.symm
  | top => simp [acells] at h

/-- box: a new variable that holds a value. -/
theorem box_run {e : TypeId} {x : AV} {cs : List AV} {v : Value} (hr : Rel G σ H w) (h : acells x = some cs) (r : RelV σ H w x v) :
    ∃ u w' σ', (Instr.box e v).run P w = .ok u w' ∧ RelV σ' (H.new (.cells cs)) w' (.ptr H.n 0) u ∧ Rel G σ' (H.new (.cells cs)) w' ∧ Ev H.n σ H w σ' (H.new (.cells cs)) w' := by
  obtain ⟨hs, hc⟩ := acells_rel h r
  obtain ⟨h1, h2⟩ := rel_new hr v.cells e cs (by omega) (fun i y hy => by
    have hlt : i < v.cells.size := by rw [hs]; exact (List.getElem?_eq_some_iff.1 hy).1
    exact ⟨v.cells[i], by simp, hc i y _ hy (by simp)⟩)
  refine ⟨.pointer (some ⟨w.heap.size, 0, none⟩), w.alloc (.cells v.cells e), _, by simp [Instr.box, newVar, newRow], ?_, h1, h2⟩
  have : RelV (σ.withC H.n w.heap.size) (H.new (.cells cs)) (w.alloc (.cells v.cells e)) (.ptr H.n 0) (.pointer (some ⟨(σ.withC H.n w.heap.size).c H.n, 0, none⟩)) := .ptr (by simp [Hp.n_new])
  simpa [Gh.withC] using this

/-- The zero value of a cell: a nil slice reads as an empty one. -/
def pvz (P : Program) (ty : TypeId) (v : Value) : PV :=
  match v, P.underlying ty with
  | .slice none 0 0, some (.slice e) => .sl true (P.cellsOf e) []
  | v, _ => .s v

theorem pvz_rel {S : Nat → Nat → Prop} {ty : TypeId} {v : Value} (h1 : v.oneCell' = true) : RelP w S (pvz P ty v) v := by
  unfold pvz
  split
  · exact .nil _ _
  · exact .s _ h1

def zrow (P : Program) : List Value → List TypeId → Option (List PV)
  | [], [] => some []
  | v :: vs, t :: ts => if v.oneCell' then (zrow P vs ts).map (pvz P t v :: ·) else none
  | _, _ => none

theorem zrow_rel {S : Nat → Nat → Prop} : ∀ {vs : List Value} {ts : List TypeId} {ps : List PV}, zrow P vs ts = some ps → ps.length = vs.length ∧ ∀ (i : Nat) p v, ps[i]? = some p → vs[i]? = some v → RelP w S p v ∧ v.oneCell' = true
  | [], [], ps, h => by simp only [zrow, Option.some.injEq] at h; subst h; simp
  | v :: vs, t :: ts, ps, h => by
    simp only [zrow] at h
    split at h
    case isFalse => cases h
    rename_i h1
    cases hz : zrow P vs ts with
    | none => simp [hz] at h
    | some qs =>
      simp only [hz, Option.map_some, Option.some.injEq] at h
      subst h
      obtain ⟨hl, hh⟩ := zrow_rel (S := S) hz
      refine ⟨by simp [hl], fun i p u hp hu => ?_⟩
      cases i with
      | zero => simp at hp hu; subst hp; subst hu; exact ⟨pvz_rel h1, h1⟩
      | succ i => simp at hp hu; exact hh i p u hp hu
  | [], _ :: _, _, h => by simp [zrow] at h
  | _ :: _, [], _, h => by simp [zrow] at h

/-- The cells of a type's zero value. -/
def azero (P : Program) (t : TypeId) : Option (List PV) :=
  match (P.info? t).bind (·.zero), P.cellTypes P.depth t with
  | some z, some ts => zrow P z.cells.toList ts
  | _, _ => none

theorem azero_run {t : TypeId} {ps : List PV} {S : Nat → Nat → Prop} (h : azero P t = some ps) :
    ∃ z, (zeroValue t).run P w = .ok z w ∧ (P.info? t).bind (·.zero) = some z ∧ z.cells.size = ps.length ∧ ∀ (i : Nat) p v, ps[i]? = some p → z.cells[i]? = some v → RelP w S p v ∧ v.oneCell' = true := by
  unfold azero at h
  split at h
  case h_2 => cases h
  rename_i z ts hz hts
  obtain ⟨hl, hh⟩ := zrow_rel (w := w) (S := S) h
  refine ⟨z, ?_, hz, by simp [hl], fun i p v hp hv => hh i p v hp (by simpa using hv)⟩
  cases hi : P.info? t with
  | none => simp [hi] at hz
  | some i => simp [hi] at hz; simp [zeroValue, typeInfo, hi, hz]

theorem alloc_run {t : TypeId} {ps : List PV} (hr : Rel G σ H w) (h : azero P t = some ps) :
    ∃ u w' σ', (Instr.alloc t true (.tuple #[])).run P w = .ok u w' ∧ RelV σ' (H.new (.cells (ps.map .p))) w' (.ptr H.n 0) u ∧ Rel G σ' (H.new (.cells (ps.map .p))) w' ∧ Ev H.n σ H w σ' (H.new (.cells (ps.map .p))) w' := by
  obtain ⟨z, hz, _, hs, hh⟩ := azero_run (w := w) (S := Stable σ H) h
  obtain ⟨h1, h2⟩ := rel_new hr z.cells t (ps.map .p) (by simp; omega) (fun i y hy => by
    simp only [List.getElem?_map, Option.map_eq_some_iff] at hy
    obtain ⟨p, hp, rfl⟩ := hy
    have hlt : i < z.cells.size := by rw [hs]; exact (List.getElem?_eq_some_iff.1 hp).1
    have := hh i p z.cells[i] hp (by simp)
    exact ⟨z.cells[i], by simp, .p this.1, this.2⟩)
  refine ⟨.pointer (some ⟨w.heap.size, 0, none⟩), w.alloc (.cells z.cells t), _, by simp [Instr.alloc, hz, newVar, newRow], ?_, h1, h2⟩
  have : RelV (σ.withC H.n w.heap.size) (H.new (.cells (ps.map .p))) (w.alloc (.cells z.cells t)) (.ptr H.n 0) (.pointer (some ⟨(σ.withC H.n w.heap.size).c H.n, 0, none⟩)) := .ptr (by simp [Hp.n_new])
  simpa [Gh.withC] using this

def aStore (P : Program) (H : Hp) (t : TypeId) (a x : AV) : Option Hp :=
  match a with
  | .ptr b off =>
    match H.f b, acells x with
    | some (.cells cs), some xs => if (P.underlying t).isSome ∧ P.cellsOf t = xs.length ∧ off + xs.length ≤ cs.length then some (H.set b (.cells (setAt cs off xs))) else none
    | _, _ => none
  | .vp b k off =>
    match (H.f b).bind AB.vec?, acells x with
    | some cs, some xs => if (P.underlying t).isSome ∧ P.cellsOf t = xs.length ∧ cs.length = k ∧ off + xs.length ≤ cs.length then some (H.set b (.vec (setAt cs off xs))) else none
    | _, _ => none
  | _ => none

/-- Cells stored into a row that is written by name. -/
theorem storeVec_rel (hr : Rel G σ H w) {b off k g s : Nat} {cs xs : List AV} (hb : H.f b = some (.tl k (some cs))) (ht : σ.t b = some (g, 0, s)) (vs : List Value) (hl : vs.length = xs.length) (hle : off + xs.length ≤ cs.length)
    (hc : ∀ (i : Nat) y u, xs[i]? = some y → vs[i]? = some u → RelC σ H w y u) :
    ∃ w', (storeCells ⟨g, off, none⟩ vs).run P w = .ok () w' ∧ ∃ σ', Rel G σ' (H.set b (.vec (setAt cs off xs))) w' ∧ Ev H.n σ H w σ' (H.set b (.vec (setAt cs off xs))) w' := by
  obtain ⟨hk, _, hvc⟩ := hr.vec b k cs hb
  obtain ⟨_, hcs, hcc⟩ := hvc g 0 s ht
  obtain ⟨c, e, hw, hcl⟩ := hr.tail b k _ g 0 s hb ht
  have hcc' : ∀ (i : Nat) x, cs[i]? = some x → ∃ v, c[i]? = some v ∧ RelC σ H w x v := fun i x hx => by
    obtain ⟨v, hv, hx⟩ := hcc i x hx
    exact ⟨v, by simpa [World.cell?, hw] using hv, hx⟩
  have hone : ∀ v ∈ vs, v.oneCell' = true := fun v hv => by
    obtain ⟨i, hi⟩ := List.getElem?_of_mem hv
    have hlt : i < xs.length := by rw [← hl]; exact (List.getElem?_eq_some_iff.1 hi).1
    exact (hc i xs[i] v (by simp) hi).2
  have hst := run_storeCells_at P g off e vs 0 c w hw (by omega) hone
  simp only [Nat.add_zero] at hst
  generalize hc' : (c.toList.take off ++ vs ++ c.toList.drop (off + vs.length)).toArray = c' at hst
  have hself : (w.setRow g c').heap[g]? = some (.cells c' e (0, 0)) := by simp [World.setRow, Array.getElem?_modify, hw]
  have hother : ∀ g', g' ≠ g → (w.setRow g c').heap[g']? = w.heap[g']? := fun g' hg' => by simp [World.setRow, Array.getElem?_modify, Ne.symm hg']
  have hsz : c'.size = c.size := by rw [← hc']; simp; omega
  obtain ⟨h1, h2⟩ := rel_setTl (G := G) hr hb (w' := w.setRow g c') (by simp) (fun g' _ hn => hother g' (fun hh => hn _ _ (hh ▸ ht))) (fun g' o s' hh i v hi hv => by rw [ht] at hh; cases hh; omega) rfl rfl
    (setAt cs off xs).length (some (setAt cs off xs)) (some (g, 0, s)) ⟨by rw [setAt_len _ _ _ hle]; omega, fun _ => ht.symm⟩ (fun g' o s' hh => by cases hh; exact ⟨.inr ⟨0, ht, Nat.le_refl _⟩, c', e, hself, by rw [hsz, hcl]⟩) (fun ds hd => by
      cases hd
      refine ⟨rfl, fun h => (by cases h), fun g' o s' hh => ?_⟩
      cases hh
      refine ⟨rfl, by rw [setAt_len _ _ _ hle]; exact hcs, fun i x hx => ?_⟩
      have key : ∃ v, c'[i]? = some v ∧ RelC σ H w x v := by
        rw [setAt_eq _ _ _ hle] at hx
        rw [← hc']
        by_cases h1 : i < off
        · rw [List.append_assoc, List.getElem?_append_left (by simp; omega), List.getElem?_take, if_pos h1] at hx
          obtain ⟨v, hv, hxv⟩ := hcc' i x hx
          refine ⟨v, ?_, hxv⟩
          rw [List.getElem?_toArray, List.append_assoc, List.getElem?_append_left (by simp; omega), List.getElem?_take, if_pos h1]
          simpa using hv
        · by_cases h2 : i < off + xs.length
          · rw [List.append_assoc, List.getElem?_append_right (by simp; omega), List.getElem?_append_left (by simp; omega)] at hx
            have hm : min off cs.length = off := by omega
            have hm' : min off c.toList.length = off := by simp; omega
            simp only [List.length_take, hm] at hx
            have hlt : i - off < vs.length := by omega
            have hu : vs[i - off]? = some vs[i - off] := by simp [hlt]
            refine ⟨vs[i - off], ?_, hc _ _ _ hx hu⟩
            rw [List.getElem?_toArray, List.append_assoc, List.getElem?_append_right (by simp; omega), List.getElem?_append_left (by simp; omega)]
            simp only [List.length_take, hm']
            exact hu
          · rw [List.getElem?_append_right (by simp; omega)] at hx
            have hm : min off cs.length = off := by omega
            have hm' : min off c.toList.length = off := by simp; omega
            simp only [List.length_append, List.length_take, hm, List.getElem?_drop] at hx
            rw [show off + xs.length + (i - (off + xs.length)) = i by omega] at hx
            obtain ⟨v, hv, hxv⟩ := hcc' i x hx
            refine ⟨v, ?_, hxv⟩
            rw [List.getElem?_toArray, List.getElem?_append_right (by simp; omega)]
            simp only [List.length_append, List.length_take, hm', List.getElem?_drop, hl]
            rw [show off + xs.length + (i - (off + xs.length)) = i by omega]
            simpa using hv
      obtain ⟨v, hv, hxv⟩ := key
      exact ⟨v, by simp [World.cell?, hself, hv], hxv⟩)
  exact ⟨_, hst, _, h1, h2⟩

/-- Cells stored into a named row. -/
theorem storeCells_rel (hr : Rel G σ H w) {b off : Nat} {cs xs : List AV} (hb : H.f b = some (.cells cs)) (vs : List Value) (hl : vs.length = xs.length) (hle : off + xs.length ≤ cs.length)
    (hc : ∀ (i : Nat) y u, xs[i]? = some y → vs[i]? = some u → RelC σ H w y u) :
    ∃ w', (storeCells ⟨σ.c b, off, none⟩ vs).run P w = .ok () w' ∧ Rel G σ (H.set b (.cells (setAt cs off xs))) w' ∧ Ev H.n σ H w σ (H.set b (.cells (setAt cs off xs))) w' := by
  obtain ⟨c, e, hw, hcl, hcc⟩ := hr.cells b cs hb
  have hone : ∀ v ∈ vs, v.oneCell' = true := fun v hv => by
    obtain ⟨i, hi⟩ := List.getElem?_of_mem hv
    have hlt : i < xs.length := by rw [← hl]; exact (List.getElem?_eq_some_iff.1 hi).1
    exact (hc i xs[i] v (by simp) hi).2
  have hst := run_storeCells_at P (σ.c b) off e vs 0 c w hw (by omega) hone
  simp only [Nat.add_zero] at hst
  obtain ⟨h1, h2⟩ := rel_setRow hr hb hw (c.toList.take off ++ vs ++ c.toList.drop (off + vs.length)).toArray (setAt cs off xs) (by simp; omega) (setAt_len _ _ _ hle) (fun i x hx => by
    rw [setAt_eq _ _ _ hle] at hx
    by_cases h1 : i < off
    · rw [List.append_assoc, List.getElem?_append_left (by simp; omega), List.getElem?_take, if_pos h1] at hx
      obtain ⟨v, hv, hxv⟩ := hcc i x hx
      refine ⟨v, ?_, hxv⟩
      rw [List.getElem?_toArray, List.append_assoc, List.getElem?_append_left (by simp; omega), List.getElem?_take, if_pos h1]
      simpa using hv
    · by_cases h2 : i < off + xs.length
      · rw [List.append_assoc, List.getElem?_append_right (by simp; omega), List.getElem?_append_left (by simp; omega)] at hx
        have hm : min off cs.length = off := by omega
        have hm' : min off c.toList.length = off := by simp; omega
        simp only [List.length_take, hm] at hx
        have hlt : i - off < vs.length := by omega
        have hu : vs[i - off]? = some vs[i - off] := by simp [hlt]
        refine ⟨vs[i - off], ?_, hc _ _ _ hx hu⟩
        rw [List.getElem?_toArray, List.append_assoc, List.getElem?_append_right (by simp; omega), List.getElem?_append_left (by simp; omega)]
        simp only [List.length_take, hm']
        exact hu
      · rw [List.getElem?_append_right (by simp; omega)] at hx
        have hm : min off cs.length = off := by omega
        have hm' : min off c.toList.length = off := by simp; omega
        simp only [List.length_append, List.length_take, hm, List.getElem?_drop] at hx
        rw [show off + xs.length + (i - (off + xs.length)) = i by omega] at hx
        obtain ⟨v, hv, hxv⟩ := hcc i x hx
        refine ⟨v, ?_, hxv⟩
        rw [List.getElem?_toArray, List.getElem?_append_right (by simp; omega)]
        simp only [List.length_append, List.length_take, hm', List.getElem?_drop, hl]
        rw [show off + xs.length + (i - (off + xs.length)) = i by omega]
        simpa using hv)
  exact ⟨_, hst, h1, h2⟩

theorem aStore_run {t : TypeId} {a x : AV} {H' : Hp} {va vx : Value} (hr : Rel G σ H w) (h : aStore P H t a x = some H') (ha : RelV σ H w a va) (hx : RelV σ H w x vx) :
    ∃ w' σ', (Instr.storeAt t va vx).run P w = .ok () w' ∧ Rel G σ' H' w' ∧ Ev H.n σ H w σ' H' w' := by
  unfold aStore at h
  split at h
  case h_3 => cases h
  · rename_i b off
    split at h
    case h_2 => cases h
    rename_i cs xs hb hxs
    split at h
    case isFalse => cases h
    rename_i hcond
    obtain ⟨hu, hsz, hle⟩ := hcond
    cases h
    obtain ⟨d, hd⟩ := Option.isSome_iff_exists.1 hu
    cases ha with | ptr hbn =>
    obtain ⟨hs, hc⟩ := acells_rel hxs hx
    obtain ⟨w', h1, h2, h3⟩ := storeCells_rel (P := P) hr hb vx.cells.toList (by simp [hs]) hle (fun i y u hy hu => hc i y u hy (by simpa using hu))
    refine ⟨w', σ, ?_, h2, h3⟩
    simp only [Instr.storeAt, Instr.sureAddr, storeVar, Sem.run_bind, Sem.run_pure, Result.andThen_ok, run_sizeOf_und hd]
    rw [if_neg (by omega)]
    exact h1
  · rename_i b k off
    split at h
    case h_2 => cases h
    rename_i cs xs hb hxs
    split at h
    case isFalse => cases h
    rename_i hcond
    obtain ⟨hu, hsz, hk, hle⟩ := hcond
    cases h
    subst hk
    obtain ⟨d, hd⟩ := Option.isSome_iff_exists.1 hu
    cases ha with | vp a hp =>
    obtain ⟨hs, hc⟩ := acells_rel hxs hx
    obtain ⟨g, s, ht, rfl, _⟩ := vp_cell hr hb hp
    obtain ⟨k, hk⟩ := vec?_inv hb
    obtain ⟨w', h1, σ', h2, h3⟩ := storeVec_rel (P := P) hr hk ht vx.cells.toList (by simp [hs]) hle (fun i y u hy hu => hc i y u hy (by simpa using hu))
    refine ⟨w', σ', ?_, h2, h3⟩
    simp only [Instr.storeAt, Instr.sureAddr, storeVar, Sem.run_bind, Sem.run_pure, Result.andThen_ok, run_sizeOf_und hd]
    rw [if_neg (by omega)]
    exact h1
end cells

/-- The elements that a value puts at a slice's end, or that copy reads. -/
def mkElem (agg : Bool) (cs : List AV) : Option PV :=
  match pvs? cs with
  | some ps => if agg then some (.agg ps) else (match ps with | [.agg _] => none | [p] => some p | _ => none)
  | none => none

def refElems (agg : Bool) (sz : Nat) : Nat → List AV → Option (List PV)
  | 0, _ => some []
  | n + 1, cs => if sz ≤ cs.length then
      match mkElem agg (cs.take sz), refElems agg sz n (cs.drop sz) with
      | some y, some ys => some (y :: ys)
      | _, _ => none
    else none

def isAggT (P : Program) (t : TypeId) : Bool := match P.underlying t with | some d => isAggD d | none => false

def aElems (P : Program) (H : Hp) (e : TypeId) (x : AV) : Option (List PV) :=
  match x with
  | .p (.sl _ sz ys) | .sl _ _ sz ys => if sz = P.cellsOf e ∨ ys.isEmpty then some ys else none
  | .ref b off len sz =>
    match H.f b with
    | some (.cells cs) => if sz = P.cellsOf e then refElems (isAggT P e) sz len (cs.drop off) else none
    | _ => none
  | .vr b len sz =>
    match (H.f b).bind AB.vec? with
    | some cs => if sz = P.cellsOf e ∧ cs.length = len * sz then refElems (isAggT P e) sz len cs else none
    | none => none
  | .p (.s (.string s)) => if P.cellsOf e = 1 then some (s.data.toList.map fun b => .s (.int .u8 b.toNat)) else none
  | _ => none

theorem mkElem_cells {agg : Bool} {cs : List AV} {y : PV} (h : mkElem agg cs = some y) : pvs? cs = some y.cells := by
  unfold mkElem at h
  split at h
  case h_2 => cases h
  rename_i ps hp
  split at h
  · cases h; exact hp
  · split at h
    · cases h
    · rename_i hne; cases h
      rw [hp]
      cases y with
      | agg xs => exact absurd rfl (hne xs)
      | _ => rfl
    · cases h

theorem refElems_get {agg : Bool} {sz : Nat} : ∀ {n : Nat} {cs : List AV} {ys : List PV}, refElems agg sz n cs = some ys →
    ys.length = n ∧ n * sz ≤ cs.length ∧ (∀ y ∈ ys, y.cells.length = sz) ∧ pvs? (cs.take (n * sz)) = some (flat ys)
  | 0, cs, ys, h => by simp only [refElems, Option.some.injEq] at h; subst h; simp [flat, pvs?]
  | n + 1, cs, ys, h => by
    simp only [refElems] at h
    split at h
    case isFalse => cases h
    rename_i hle
    split at h
    case h_2 => cases h
    rename_i y ys' h1 h2
    cases h
    obtain ⟨a1, a2, a3, a4⟩ := refElems_get h2
    have hc := mkElem_cells h1
    have hl := (pvs?_get hc).1
    simp only [List.length_take] at hl
    have hyl : y.cells.length = sz := by omega
    simp only [List.length_drop] at a2
    refine ⟨by simp [a1], by rw [Nat.succ_mul]; omega, fun z hz => ?_, ?_⟩
    · simp only [List.mem_cons] at hz
      rcases hz with rfl | hz
      · exact hyl
      · exact a3 z hz
    · have happ : ∀ (l1 l2 : List AV) (p1 p2 : List PV), pvs? l1 = some p1 → pvs? l2 = some p2 → pvs? (l1 ++ l2) = some (p1 ++ p2) := by
        intro l1
        induction l1 with
        | nil => intro l2 p1 p2 e1 e2; simp only [pvs?, Option.some.injEq] at e1; subst e1; simpa using e2
        | cons a l ih =>
          intro l2 p1 p2 e1 e2
          simp only [pvs?] at e1
          split at e1
          case h_2 => cases e1
          rename_i q qs hq hqs
          cases e1
          simp only [List.cons_append, pvs?, hq, ih l2 qs p2 hqs e2]
      have ht : cs.take ((n + 1) * sz) = cs.take sz ++ (cs.drop sz).take (n * sz) := by
        rw [Nat.succ_mul, Nat.add_comm, List.take_add]
      rw [ht]
      simp only [flat, List.flatMap_cons]
      exact happ _ _ _ _ hc a4

end Go.AL
