/-
  Operations that read memory or make addresses, on abstract values: what they come to, and that the machine's do.
  Conditions: none; nothing here speaks of one program.
-/
import Derived.Test.YtkpeknkpleocgaaDoorEngD
set_option linter.unusedSimpArgs false
set_option linter.unusedVariables false
namespace Go.AL
open Go

def isAggD : TypeDesc → Bool
  | .struct _ | .array _ _ => true
  | _ => false

section runs
variable {P : Program} {w : World}
theorem run_sizeOf_pos {t : TypeId} (h : 0 < P.cellsOf t) : (sizeOf t).run P w = .ok (P.cellsOf t) w := by
  unfold Program.cellsOf at *
  cases hi : P.info? t with
  | none => simp [hi] at h
  | some i => simp [sizeOf, typeInfo, hi]
theorem run_sizeOf_und {t : TypeId} {d : TypeDesc} (h : P.underlying t = some d) : (sizeOf t).run P w = .ok (P.cellsOf t) w := by
  unfold Program.cellsOf
  cases hi : P.info? t with
  | none => simp [Program.underlying, hi] at h
  | some i => simp [sizeOf, typeInfo, hi]
theorem run_isAgg {t : TypeId} {d : TypeDesc} (h : P.underlying t = some d) : (isAgg t).run P w = .ok (isAggD d) w := by
  unfold isAgg
  rw [Sem.run_bind, run_underlying h, Result.andThen_ok]
  cases d <;> rfl
theorem add_none (g o n : Nat) : (⟨g, o, none⟩ : Addr).add n = ⟨g, o + n, none⟩ := by unfold Addr.add; split <;> simp_all
end runs

theorem flat_get {sz : Nat} : ∀ {xs : List PV} (_ : ∀ x ∈ xs, x.cells.length = sz) {i j : Nat} {x y : PV}, xs[i]? = some x → x.cells[j]? = some y → (flat xs)[i * sz + j]? = some y
  | [], _, i, j, x, y, hi, _ => by simp at hi
  | z :: xs, h, 0, j, x, y, hi, hj => by
    simp only [List.getElem?_cons_zero, Option.some.injEq] at hi
    subst hi
    have hlt : j < z.cells.length := (List.getElem?_eq_some_iff.1 hj).1
    simp only [flat, List.flatMap_cons, Nat.zero_mul, Nat.zero_add]
    rw [List.getElem?_append_left hlt]; exact hj
  | z :: xs, h, i + 1, j, x, y, hi, hj => by
    simp only [List.getElem?_cons_succ] at hi
    have hz : z.cells.length = sz := h z (by simp)
    have ih := flat_get (xs := xs) (fun x hx => h x (by simp [hx])) hi hj
    simp only [flat, List.flatMap_cons]
    rw [List.getElem?_append_right (by rw [hz, Nat.succ_mul]; omega)]
    rw [show (i + 1) * sz + j - z.cells.length = i * sz + j by rw [hz, Nat.succ_mul]; omega]
    exact ih

theorem flat_len {sz : Nat} : ∀ {xs : List PV} (_ : ∀ x ∈ xs, x.cells.length = sz), (flat xs).length = xs.length * sz
  | [], _ => by simp [flat]
  | z :: xs, h => by
    have ih := flat_len (xs := xs) (fun x hx => h x (by simp [hx]))
    simp only [flat, List.flatMap_cons, List.length_append, List.length_cons] at *
    rw [ih, h z (by simp), Nat.succ_mul]; omega

/-- What a slice's reading says of its elements' cells. -/
theorem RelP.elem {w : World} {S : Nat → Nat → Prop} {fl : Bool} {sz : Nat} {xs : List PV} {g off cap : Nat} {sp : Option Nat} {len : Nat} (h : RelP w S (.sl fl sz xs) (.slice (some ⟨g, off, sp⟩) len cap))
    {i j : Nat} {x y : PV} (hi : xs[i]? = some x) (hj : x.cells[j]? = some y) : ∃ v, w.cell? ⟨g, off + (i * sz + j), none⟩ = some v ∧ RelP w S y v ∧ v.oneCell' = true := by
  cases h with
  | sl fl sz xs g off cap f hfl hcap hsz hrd hc =>
    have hk := flat_get hsz hi hj
    have hlt : i * sz + j < xs.length * sz := by rw [← flat_len hsz]; exact (List.getElem?_eq_some_iff.1 hk).1
    exact ⟨f (i * sz + j), (hrd _ hlt).2.1, hc _ _ hk, (hrd _ hlt).2.2⟩

theorem RelP.szs {w : World} {S : Nat → Nat → Prop} {fl : Bool} {sz : Nat} {xs : List PV} {v : Value} (h : RelP w S (.sl fl sz xs) v) : ∀ x ∈ xs, x.cells.length = sz := by
  cases h with
  | nil => simp
  | sl fl sz xs g off cap f hfl hcap hsz hrd hc => exact hsz

def AV.pv? : AV → Option PV
  | .p x => some x
  | .sl _ _ sz xs => some (.sl false sz xs)
  | _ => none

def pvs? : List AV → Option (List PV)
  | [] => some []
  | x :: xs => match x.pv?, pvs? xs with
    | some y, some ys => some (y :: ys)
    | _, _ => none

theorem AV.pv?_rel {σ H w} {x : AV} {y : PV} {v : Value} (h : x.pv? = some y) (r : RelV σ H w x v) : RelP w (Stable σ H) y v := by
  cases x <;> simp only [AV.pv?] at h <;> try cases h
  · cases r; assumption
  · cases r; assumption

theorem pvs?_get : ∀ {xs : List AV} {ys : List PV}, pvs? xs = some ys → ys.length = xs.length ∧ ∀ (i : Nat) y, ys[i]? = some y → ∃ x, xs[i]? = some x ∧ x.pv? = some y
  | [], ys, h => by simp only [pvs?, Option.some.injEq] at h; subst h; simp
  | x :: xs, ys, h => by
    simp only [pvs?] at h
    split at h
    · rename_i y ys' h1 h2
      cases h
      obtain ⟨hl, hg⟩ := pvs?_get h2
      refine ⟨by simp [hl], fun i z hi => ?_⟩
      cases i with
      | zero => simp at hi; subst hi; exact ⟨x, by simp, h1⟩
      | succ i => simp at hi ⊢; exact hg i z hi
    · cases h

def mkAgg (xs : List AV) : AV := match pvs? xs with | some ps => .p (.agg ps) | none => .agg xs

theorem mkAgg_rel {σ H w} {xs : List AV} {vs : Array Value} (hl : vs.size = xs.length) (h1 : ∀ (i : Nat) v, vs[i]? = some v → v.oneCell' = true) (h : ∀ (i : Nat) x v, xs[i]? = some x → vs[i]? = some v → RelV σ H w x v) : RelV σ H w (mkAgg xs) (.agg vs) := by
  unfold mkAgg
  split
  · rename_i ps hp
    obtain ⟨hpl, hg⟩ := pvs?_get hp
    refine .p (.agg ps vs (by omega) h1 fun i y v hy hv => ?_)
    obtain ⟨x, hx, hxy⟩ := hg i y hy
    exact AV.pv?_rel hxy (h i x v hx hv)
  · exact .agg vs hl h1 h

def PV.isAgg : PV → Bool
  | .agg _ => true
  | _ => false

def PV.aggOf (x : PV) (sub n : Nat) : PV := if x.isAgg && sub == 0 && n == x.cells.length then x else .agg ((x.cells.drop sub).take n)

theorem PV.aggOf_eq (x : PV) (sub n : Nat) : x.aggOf sub n = .agg ((x.cells.drop sub).take n) := by
  unfold PV.aggOf
  split
  · rename_i h
    simp only [Bool.and_eq_true, beq_iff_eq] at h
    obtain ⟨⟨ha, rfl⟩, rfl⟩ := h
    cases x <;> simp [PV.isAgg] at ha
    simp [PV.cells]
  · rfl

def AB.vec? : AB → Option (List AV)
  | .tl _ c => c
  | _ => none

theorem vec?_inv {o : Option AB} {cs : List AV} (h : o.bind AB.vec? = some cs) : ∃ k, o = some (.tl k (some cs)) := by
  cases o with
  | none => cases h
  | some x =>
    cases x with
    | tl k c => simp only [Option.bind_some, AB.vec?] at h; subst h; exact ⟨k, rfl⟩
    | _ => cases h

def aLoad (P : Program) (H : Hp) (t : TypeId) (a : AV) : Option AV :=
  match P.underlying t with
  | some d =>
    match a with
    | .ptr b off =>
      match H.f b with
      | some (.cells cs) => if isAggD d then (if off + P.cellsOf t ≤ cs.length then some (mkAgg ((cs.drop off).take (P.cellsOf t))) else none) else cs[off]?
      | _ => none
    | .ip _ xs i sub =>
      match xs[i]? with
      | some x => if isAggD d then (if sub + P.cellsOf t ≤ x.cells.length then some (.p (x.aggOf sub (P.cellsOf t))) else none) else (x.cells[sub]?).map .p
      | none => none
    | .vp b k off =>
      match (H.f b).bind AB.vec? with
      | some cs => if cs.length = k then (if isAggD d then (if off + P.cellsOf t ≤ cs.length then some (mkAgg ((cs.drop off).take (P.cellsOf t))) else none) else cs[off]?) else none
      | none => none
    | _ => none
  | none => none

section memory
variable {P : Program} {G : Globs} {σ : Gh} {H : Hp} {w : World}

theorem cells_cell (hr : Rel G σ H w) {b : Nat} {cs : List AV} (hb : H.f b = some (.cells cs)) {i : Nat} {x : AV} (hi : cs[i]? = some x) :
    ∃ v, w.cell? ⟨σ.c b, i, none⟩ = some v ∧ RelC σ H w x v := by
  obtain ⟨c, e, h1, h2, h3⟩ := hr.cells b cs hb
  obtain ⟨v, hv, hx⟩ := h3 i x hi
  exact ⟨v, by simp [World.cell?, h1, hv], hx⟩

/-- A row that is written by name, through a pointer that is not out of date. -/
theorem vp_cell (hr : Rel G σ H w) {b : Nat} {cs : List AV} (hb : (H.f b).bind AB.vec? = some cs) {off : Nat} {a : Addr} (h : VpOK σ H b cs.length off a) :
    ∃ g s, σ.t b = some (g, 0, s) ∧ a = ⟨g, off, none⟩ ∧ cs.length ≤ s ∧ ∀ (i : Nat) x, cs[i]? = some x → ∃ v, w.cell? ⟨g, i, none⟩ = some v ∧ RelC σ H w x v := by
  obtain ⟨k, hk⟩ := vec?_inv hb
  obtain ⟨rfl, _, h2⟩ := hr.vec b k cs hk
  obtain ⟨g, s, ht, ha⟩ := (h.2 _ _ hk).2 rfl
  exact ⟨g, s, ht, ha, (h2 g 0 s ht).2⟩

theorem run_loadVar_agg {t : TypeId} {d : TypeDesc} (hu : P.underlying t = some d) (hd : isAggD d = true) (a : Addr) (f : Nat → Value) (h : ∀ j, j < P.cellsOf t → w.cell? (a.add j) = some (f j)) :
    (loadVar t a).run P w = .ok (.agg ((List.range (P.cellsOf t)).map f).toArray) w := by
  simp only [loadVar, Sem.run_bind, run_isAgg hu, Result.andThen_ok, hd, if_true, run_sizeOf_und hu, run_loadCells w a _ f h]
  rfl

theorem run_loadVar_one {t : TypeId} {d : TypeDesc} (hu : P.underlying t = some d) (hd : isAggD d = false) (a : Addr) {v : Value} (h : w.cell? a = some v) : (loadVar t a).run P w = .ok v w := by
  simp [loadVar, Sem.run_bind, run_isAgg hu, Result.andThen_ok, hd, h]

/-- Cells of a row, read at their type. -/
theorem row_load {t : TypeId} {d : TypeDesc} (hu : P.underlying t = some d) {g off : Nat} {cs : List AV} {y : AV} (hcell : ∀ (i : Nat) x, cs[i]? = some x → ∃ v, w.cell? ⟨g, i, none⟩ = some v ∧ RelC σ H w x v)
    (h : (if isAggD d then (if off + P.cellsOf t ≤ cs.length then some (mkAgg ((cs.drop off).take (P.cellsOf t))) else none) else cs[off]?) = some y) :
    ∃ v, (Instr.loadAt t (.pointer (some ⟨g, off, none⟩))).run P w = .ok v w ∧ RelV σ H w y v := by
  simp only [Instr.loadAt, Instr.sureAddr, Sem.run_bind, Sem.run_pure, Result.andThen_ok]
  by_cases hd : isAggD d = true
  · rw [if_pos hd] at h
    split at h
    case isFalse => cases h
    rename_i hle
    cases h
    have hex : ∀ j, j < P.cellsOf t → ∃ v, w.cell? ⟨g, off + j, none⟩ = some v ∧ ∃ x, cs[off + j]? = some x ∧ RelC σ H w x v := fun j hj => by
      have hx : cs[off + j]? = some (cs[off + j]'(by omega)) := by simp
      obtain ⟨v, a, b⟩ := hcell _ _ hx
      exact ⟨v, a, _, hx, b⟩
    let f : Nat → Value := fun j => (w.cell? ⟨g, off + j, none⟩).getD undef
    have hf : ∀ j, j < P.cellsOf t → w.cell? ((⟨g, off, none⟩ : Addr).add j) = some (f j) := fun j hj => by
      obtain ⟨v, hv, _⟩ := hex j hj
      rw [add_none, hv]; simp [f, hv]
    have h1 : ∀ (i : Nat) v, (((List.range (P.cellsOf t)).map f).toArray)[i]? = some v → v.oneCell' = true := fun i v hv => by
      have hi : i < P.cellsOf t := by
        rcases Nat.lt_or_ge i (P.cellsOf t) with h' | h'
        · exact h'
        · simp [h'] at hv
      obtain ⟨u, hu1, _, _, hu2⟩ := hex i hi
      simp [hi, f, hu1] at hv
      subst hv; exact hu2.2
    refine ⟨_, run_loadVar_agg hu hd _ f hf, mkAgg_rel (by simp; omega) h1 fun i x v hx hv => ?_⟩
    have hi : i < P.cellsOf t := by
      rcases Nat.lt_or_ge i (P.cellsOf t) with h' | h'
      · exact h'
      · simp [List.getElem?_take, Nat.not_lt.2 h'] at hx
    obtain ⟨u, hu1, x', hx', hu2⟩ := hex i hi
    simp [List.getElem?_take, hi, hx'] at hx
    simp [hi, f, hu1] at hv
    subst hx; subst hv
    exact hu2.1
  · have hd : isAggD d = false := by simpa using hd
    rw [if_neg (by simp [hd])] at h
    obtain ⟨v, hv, hx⟩ := hcell _ _ h
    exact ⟨v, run_loadVar_one hu hd _ hv, hx.1⟩

theorem aLoad_run (hr : Rel G σ H w) {t : TypeId} {a y : AV} {va : Value} (h : aLoad P H t a = some y) (ha : RelV σ H w a va) :
    ∃ v, (Instr.loadAt t va).run P w = .ok v w ∧ RelV σ H w y v := by
  unfold aLoad at h
  split at h
  case h_2 => cases h
  rename_i d hu
  split at h
  case h_4 => cases h
  · rename_i b off
    split at h
    case h_2 => cases h
    rename_i cs hb
    cases ha with | ptr hbn =>
    simp only [Instr.loadAt, Instr.sureAddr, Sem.run_bind, Sem.run_pure, Result.andThen_ok]
    by_cases hd : isAggD d = true
    · rw [if_pos hd] at h
      split at h
      case isFalse => cases h
      rename_i hle
      cases h
      have hex : ∀ j, j < P.cellsOf t → ∃ v, w.cell? ⟨σ.c b, off + j, none⟩ = some v ∧ ∃ x, cs[off + j]? = some x ∧ RelC σ H w x v := fun j hj => by
        have hx : cs[off + j]? = some (cs[off + j]'(by omega)) := by simp
        obtain ⟨v, a, b⟩ := cells_cell hr hb hx
        exact ⟨v, a, _, hx, b⟩
      let f : Nat → Value := fun j => (w.cell? ⟨σ.c b, off + j, none⟩).getD undef
      have hf : ∀ j, j < P.cellsOf t → w.cell? ((⟨σ.c b, off, none⟩ : Addr).add j) = some (f j) := fun j hj => by
        obtain ⟨v, hv, _⟩ := hex j hj
        rw [add_none, hv]; simp [f, hv]
      have h1 : ∀ (i : Nat) v, (((List.range (P.cellsOf t)).map f).toArray)[i]? = some v → v.oneCell' = true := fun i v hv => by
        have hi : i < P.cellsOf t := by
          rcases Nat.lt_or_ge i (P.cellsOf t) with h' | h'
          · exact h'
          · simp [h'] at hv
        obtain ⟨u, hu1, _, _, hu2⟩ := hex i hi
        simp [hi, f, hu1] at hv
        subst hv; exact hu2.2
      refine ⟨_, run_loadVar_agg hu hd _ f hf, mkAgg_rel (by simp; omega) h1 fun i x v hx hv => ?_⟩
      have hi : i < P.cellsOf t := by
        rcases Nat.lt_or_ge i (P.cellsOf t) with h' | h'
        · exact h'
        · simp [List.getElem?_take, Nat.not_lt.2 h'] at hx
      obtain ⟨u, hu1, x', hx', hu2⟩ := hex i hi
      simp [List.getElem?_take, hi, hx'] at hx
      simp [hi, f, hu1] at hv
      subst hx; subst hv
      exact hu2.1
    · have hd : isAggD d = false := by simpa using hd
      rw [if_neg (by simp [hd])] at h
      obtain ⟨v, hv, hx⟩ := cells_cell hr hb h
      exact ⟨v, run_loadVar_one hu hd _ hv, hx.1⟩
  · rename_i sz xs i sub
    split at h
    case h_2 => cases h
    rename_i x hx
    cases ha with | @ip _ _ _ _ g off cap hp hi hs =>
    simp only [Instr.loadAt, Instr.sureAddr, Sem.run_bind, Sem.run_pure, Result.andThen_ok]
    by_cases hd : isAggD d = true
    · rw [if_pos hd] at h
      split at h
      case isFalse => cases h
      rename_i hle
      cases h
      have hex : ∀ j, j < P.cellsOf t → ∃ v, w.cell? ⟨g, off + i * sz + sub + j, none⟩ = some v ∧ ∃ y, x.cells[sub + j]? = some y ∧ RelP w (Stable σ H) y v ∧ v.oneCell' = true := fun j hj => by
        have hy : x.cells[sub + j]? = some (x.cells[sub + j]'(by omega)) := by simp
        obtain ⟨v, a, b⟩ := hp.elem hx hy
        exact ⟨v, by simpa [Nat.add_assoc] using a, _, hy, b⟩
      let f : Nat → Value := fun j => (w.cell? ⟨g, off + i * sz + sub + j, none⟩).getD undef
      have hf : ∀ j, j < P.cellsOf t → w.cell? ((⟨g, off + i * sz + sub, none⟩ : Addr).add j) = some (f j) := fun j hj => by
        obtain ⟨v, hv, _⟩ := hex j hj
        rw [add_none, hv]; simp [f, hv]
      have h1 : ∀ (i : Nat) v, (((List.range (P.cellsOf t)).map f).toArray)[i]? = some v → v.oneCell' = true := fun i v hv => by
        have hi : i < P.cellsOf t := by
          rcases Nat.lt_or_ge i (P.cellsOf t) with h' | h'
          · exact h'
          · simp [h'] at hv
        obtain ⟨u, hu1, _, _, hu2⟩ := hex i hi
        simp [hi, f, hu1] at hv
        subst hv; exact hu2.2
      refine ⟨_, run_loadVar_agg hu hd _ f hf, ?_⟩
      rw [PV.aggOf_eq]
      refine .p (.agg _ _ (by simp; omega) h1 fun k y v hy hv => ?_)
      have hk : k < P.cellsOf t := by
        rcases Nat.lt_or_ge k (P.cellsOf t) with h' | h'
        · exact h'
        · simp [List.getElem?_take, Nat.not_lt.2 h'] at hy
      obtain ⟨u, hu1, x', hx', hu2⟩ := hex k hk
      simp [List.getElem?_take, hk, hx'] at hy
      simp [hk, f, hu1] at hv
      subst hy; subst hv
      exact hu2.1
    · have hd : isAggD d = false := by simpa using hd
      rw [if_neg (by simp [hd])] at h
      cases hy : x.cells[sub]? with
      | none => simp [hy] at h
      | some z =>
        simp only [hy, Option.map_some, Option.some.injEq] at h
        subst h
        obtain ⟨v, hv, hx⟩ := hp.elem hx hy
        exact ⟨v, run_loadVar_one hu hd _ (by simpa [Nat.add_assoc] using hv), .p hx.1⟩
  · rename_i b k off
    split at h
    case h_2 => cases h
    rename_i cs hb
    split at h
    case isFalse => cases h
    rename_i hk
    subst hk
    cases ha with | vp a hp =>
    obtain ⟨g, s, _, rfl, _, hcell⟩ := vp_cell hr hb hp
    exact row_load hu hcell h

/-- An integer among the abstract values. -/
def AV.int? : AV → Option Int
  | .p (.s (.int _ n)) => some n
  | _ => none

theorem AV.int?_inv {x : AV} {n : Int} {v : Value} (h : x.int? = some n) (r : RelV σ H w x v) : ∃ k, v = .int k n := by
  cases x with
  | p x =>
    cases x with
    | s u => cases u <;> simp only [AV.int?] at h <;> cases h; cases r with | p r => cases r; exact ⟨_, rfl⟩
    | _ => cases h
  | _ => cases h

def aIndexAddr (P : Program) (t : TypeId) (x ix : AV) : Option AV :=
  match ix.int? with
  | some n =>
    match P.underlying t, x with
    | some (.slice e), .p (.sl _ sz xs) | some (.slice e), .sl _ _ sz xs => if 0 ≤ n ∧ n.toNat < xs.length ∧ P.cellsOf e = sz ∧ 0 < sz then some (.ip sz xs n.toNat 0) else none
    | some (.slice e), .ref b off len sz => if 0 ≤ n ∧ n.toNat < len ∧ P.cellsOf e = sz ∧ 0 < sz then some (.ptr b (off + n.toNat * sz)) else none
    | some (.array len e), .ptr b off => if 0 ≤ n ∧ n.toNat < len ∧ 0 < P.cellsOf e then some (.ptr b (off + n.toNat * P.cellsOf e)) else none
    | some (.array len e), .ip sz xs i sub => if 0 ≤ n ∧ n.toNat < len ∧ 0 < P.cellsOf e ∧ sub + n.toNat * P.cellsOf e < sz then some (.ip sz xs i (sub + n.toNat * P.cellsOf e)) else none
    | some (.slice e), .vr b len sz => if 0 ≤ n ∧ n.toNat < len ∧ P.cellsOf e = sz ∧ 0 < sz then some (.vp b (len * sz) (n.toNat * sz)) else none
    | some (.array len e), .vp b k off => if 0 ≤ n ∧ n.toNat < len ∧ 0 < P.cellsOf e then some (.vp b k (off + n.toNat * P.cellsOf e)) else none
    | _, _ => none
  | none => none

/-- A place further on in a row that is written by name. -/
theorem VpOK.add {b k off n : Nat} {a : Addr} (h : VpOK σ H b k off a) : VpOK σ H b k (off + n) (a.add n) :=
  ⟨h.1, fun k0 c hk => ⟨(h.2 k0 c hk).1, fun he => let ⟨g, s, h1, h2⟩ := (h.2 k0 c hk).2 he; ⟨g, s, h1, by rw [h2, add_none]⟩⟩⟩

theorem run_indexAt_in {t e : TypeId} {k : IntKind} {n : Int} {a : Addr} {len cap : Nat} (hu : P.underlying t = some (.slice e)) (h0 : 0 ≤ n) (hn : n.toNat < len) (hs : 0 < P.cellsOf e) :
    (Instr.indexAt t (.slice (some a) len cap) (.int k n)).run P w = .ok (.pointer (some (a.add (n.toNat * P.cellsOf e)))) w := by
  simp only [Instr.indexAt, asIntOf, Sem.run_bind, Sem.run_pure, Result.andThen_ok, run_underlying hu]
  rw [if_pos ⟨h0, by omega⟩]
  simp [run_sizeOf_pos hs]

theorem run_indexAt_arr {t e : TypeId} {k : IntKind} {n : Int} {a : Addr} {len : Nat} (hu : P.underlying t = some (.array len e)) (h0 : 0 ≤ n) (hn : n.toNat < len) (hs : 0 < P.cellsOf e) :
    (Instr.indexAt t (.pointer (some a)) (.int k n)).run P w = .ok (.pointer (some (a.add (n.toNat * P.cellsOf e)))) w := by
  simp only [Instr.indexAt, asIntOf, Sem.run_bind, Sem.run_pure, Result.andThen_ok, run_underlying hu, Instr.sureAddr]
  rw [if_pos ⟨h0, by omega⟩]
  simp [run_sizeOf_pos hs]

theorem ip_of_sl {fl : Bool} {sz : Nat} {xs : List PV} {v : Value} (h : RelP w (Stable σ H) (.sl fl sz xs) v) {i : Nat} (hi : i < xs.length) (hz : 0 < sz) :
    ∃ g off cap, v = .slice (some ⟨g, off, none⟩) xs.length cap ∧ RelV σ H w (.ip sz xs i 0) (.pointer (some ⟨g, off + i * sz, none⟩)) := by
  cases h with
  | nil => simp at hi
  | sl fl sz xs g off cap f hfl hcap hsz hrd hc =>
    exact ⟨g, off, cap, rfl, .ip (off := off) (cap := cap) (.sl false sz xs g off cap f (by simp) hcap hsz hrd hc) hi hz⟩

theorem aIndexAddr_run {t : TypeId} {x ix y : AV} {vx vi : Value} (h : aIndexAddr P t x ix = some y) (hx : RelV σ H w x vx) (hi : RelV σ H w ix vi) :
    ∃ v, (Instr.indexAt t vx vi).run P w = .ok v w ∧ RelV σ H w y v := by
  unfold aIndexAddr at h
  split at h
  case h_2 => cases h
  rename_i n hn
  obtain ⟨k, rfl⟩ := AV.int?_inv hn hi
  split at h
  case h_8 => cases h
  · rename_i e fl sz xs hu
    split at h
    case isFalse => cases h
    rename_i hc
    obtain ⟨h0, hlt, rfl, hz⟩ := hc
    cases h
    cases hx with | p hx =>
    obtain ⟨g, off, cap, rfl, hp⟩ := ip_of_sl hx hlt hz
    exact ⟨_, run_indexAt_in hu h0 hlt hz, by rw [add_none]; exact hp⟩
  · rename_i e α kk sz xs hu
    split at h
    case isFalse => cases h
    rename_i hc
    obtain ⟨h0, hlt, rfl, hz⟩ := hc
    cases h
    cases hx with | sl hx _ =>
    obtain ⟨g, off, cap, rfl, hp⟩ := ip_of_sl hx hlt hz
    exact ⟨_, run_indexAt_in hu h0 hlt hz, by rw [add_none]; exact hp⟩
  · rename_i e b off len sz hu
    split at h
    case isFalse => cases h
    rename_i hc
    obtain ⟨h0, hlt, rfl, hz⟩ := hc
    cases h
    cases hx with | ref a h00 hb hcap ha =>
    refine ⟨_, run_indexAt_in hu h0 hlt hz, ?_⟩
    rw [ha (by omega), add_none]
    exact .ptr hb
  · rename_i len e b off hu
    split at h
    case isFalse => cases h
    rename_i hc
    obtain ⟨h0, hlt, hz⟩ := hc
    cases h
    cases hx with | ptr hb =>
    exact ⟨_, run_indexAt_arr hu h0 hlt hz, by rw [add_none]; exact .ptr hb⟩
  · rename_i len e sz xs i sub hu
    split at h
    case isFalse => cases h
    rename_i hc
    obtain ⟨h0, hlt, hz, hs⟩ := hc
    cases h
    cases hx with | ip hp hi' hs' =>
    refine ⟨_, run_indexAt_arr hu h0 hlt hz, ?_⟩
    rw [add_none, Nat.add_assoc]
    exact .ip hp hi' hs
  · rename_i e b len sz hu
    split at h
    case isFalse => cases h
    rename_i hc
    obtain ⟨h0, hlt, rfl, hz⟩ := hc
    cases h
    cases hx with | vr hx =>
    obtain ⟨hb, a, cap, rfl, hs, hx⟩ := hx
    obtain ⟨a, rfl⟩ := Option.isSome_iff_exists.1 (hs.1 (by omega))
    refine ⟨_, run_indexAt_in hu h0 hlt hz, .vp _ ⟨hb, fun k0 c hk => ⟨(hx k0 c hk).1, fun he => ?_⟩⟩⟩
    rcases (hx k0 c hk).2 he with ⟨h1, _⟩ | ⟨g, s, h1, h2, _⟩
    · omega
    · cases h1
      exact ⟨g, s, h2, by rw [add_none]; simp⟩
  · rename_i len e b k off hu
    split at h
    case isFalse => cases h
    rename_i hc
    obtain ⟨h0, hlt, hz⟩ := hc
    cases h
    cases hx with | vp a hb =>
    exact ⟨_, run_indexAt_arr hu h0 hlt hz, .vp _ hb.add⟩

def aFieldAddr (P : Program) (s : TypeId) (x : AV) (field : Nat) : Option AV :=
  match P.underlying s with
  | some (.struct fields) =>
    match fields[field]?, x with
    | some f, .ptr b off => if 0 < P.cellsOf f.type then some (.ptr b (off + f.offset)) else none
    | some f, .ip sz xs i sub => if 0 < P.cellsOf f.type ∧ sub + f.offset < sz then some (.ip sz xs i (sub + f.offset)) else none
    | some f, .vp b k off => if 0 < P.cellsOf f.type then some (.vp b k (off + f.offset)) else none
    | _, _ => none
  | _ => none

theorem aFieldAddr_run {s : TypeId} {x y : AV} {field : Nat} {vx : Value} (h : aFieldAddr P s x field = some y) (hx : RelV σ H w x vx) :
    ∃ v, (Instr.fieldAt s vx field).run P w = .ok v w ∧ RelV σ H w y v := by
  unfold aFieldAddr at h
  split at h
  case h_2 => cases h
  rename_i fields hu
  split at h
  case h_4 => cases h
  · rename_i f b off hf
    split at h
    case isFalse => cases h
    rename_i hz
    cases h
    cases hx with | ptr hb =>
    refine ⟨.pointer (some ⟨σ.c b, off + f.offset, none⟩), ?_, .ptr hb⟩
    simp only [Instr.fieldAt, Sem.run_bind, run_underlying hu, Result.andThen_ok, hf, Instr.sureAddr, Sem.run_pure, fieldPlace, run_sizeOf_pos hz]
    rw [if_neg (by omega)]
    simp [add_none]
  · rename_i f sz xs i sub hf
    split at h
    case isFalse => cases h
    rename_i hz
    cases h
    cases hx with | @ip _ _ _ _ g off cap hp hi hs =>
    refine ⟨.pointer (some ⟨g, off + i * sz + (sub + f.offset), none⟩), ?_, .ip hp hi hz.2⟩
    simp only [Instr.fieldAt, Sem.run_bind, run_underlying hu, Result.andThen_ok, hf, Instr.sureAddr, Sem.run_pure, fieldPlace, run_sizeOf_pos hz.1]
    rw [if_neg (by omega)]
    simp [add_none, Nat.add_assoc]
  · rename_i f b k off hf
    split at h
    case isFalse => cases h
    rename_i hz
    cases h
    cases hx with | vp a hb =>
    refine ⟨.pointer (some (a.add f.offset)), ?_, .vp _ hb.add⟩
    simp only [Instr.fieldAt, Sem.run_bind, run_underlying hu, Result.andThen_ok, hf, Instr.sureAddr, Sem.run_pure, fieldPlace, run_sizeOf_pos hz]
    rw [if_neg (by omega)]
    simp

/-- A part of a struct's or an array's cells. -/
def aPart (P : Program) (t : TypeId) (x : AV) (off : Nat) : Option AV :=
  match P.underlying t with
  | some d =>
    match x with
    | .p (.agg cs) => if isAggD d then (if off + P.cellsOf t ≤ cs.length then some (.p (.agg ((cs.drop off).take (P.cellsOf t)))) else none) else (cs[off]?).map .p
    | .agg cs => if isAggD d then (if off + P.cellsOf t ≤ cs.length then some (mkAgg ((cs.drop off).take (P.cellsOf t))) else none) else cs[off]?
    | _ => none
  | none => none

theorem extract_toList (vs : Array Value) (off n : Nat) : (vs.extract off (off + n)).toList = (vs.toList.drop off).take n := by
  rw [Array.toList_extract, List.extract_eq_take_drop]
  congr 1; omega

theorem aPart_run {t : TypeId} {x y : AV} {off : Nat} {vs : Array Value} (h : aPart P t x off = some y) (hx : RelV σ H w x (.agg vs)) :
    ∃ v, (part t vs off).run P w = .ok v w ∧ RelV σ H w y v := by
  unfold aPart at h
  split at h
  case h_2 => cases h
  rename_i d hu
  have hget : ∀ (i : Nat), i < P.cellsOf t → (vs.extract off (off + P.cellsOf t))[i]? = vs[off + i]? := fun i hi => by
    rw [← Array.getElem?_toList, extract_toList, List.getElem?_take, if_pos hi, List.getElem?_drop, Array.getElem?_toList]
  have hsub : (∀ (i : Nat) v, vs[i]? = some v → v.oneCell' = true) → ∀ (i : Nat) v, (vs.extract off (off + P.cellsOf t))[i]? = some v → v.oneCell' = true := fun hone i v hv => by
    have hi : i < P.cellsOf t := by
      have := (Array.getElem?_eq_some_iff.1 hv).1
      simp at this; omega
    rw [hget i hi] at hv
    exact hone _ v hv
  split at h
  case h_3 => cases h
  · rename_i cs
    have hcs : vs.size = cs.length ∧ ∀ (i : Nat) x v, cs[i]? = some x → vs[i]? = some v → RelP w (Stable σ H) x v := by
      cases hx with | p hx => cases hx with | agg _ _ hl h1 h => exact ⟨hl, h⟩
    have hone : ∀ (i : Nat) v, vs[i]? = some v → v.oneCell' = true := by
      cases hx with | p hx => cases hx with | agg _ _ hl h1 h => exact h1
    by_cases hd : isAggD d = true
    · rw [if_pos hd] at h
      split at h
      case isFalse => cases h
      rename_i hle
      cases h
      refine ⟨.agg (vs.extract off (off + P.cellsOf t)), ?_, .p (.agg _ _ (by simp; omega) (hsub hone) fun i x v hx hv => ?_)⟩
      · simp [part, run_isAgg hu, hd, run_sizeOf_und hu]
      · have hi : i < P.cellsOf t := by
          rcases Nat.lt_or_ge i (P.cellsOf t) with h' | h'
          · exact h'
          · simp [List.getElem?_take, Nat.not_lt.2 h'] at hx
        rw [hget i hi] at hv
        simp [List.getElem?_take, hi] at hx
        exact hcs.2 _ _ _ hx hv
    · have hd : isAggD d = false := by simpa using hd
      rw [if_neg (by simp [hd])] at h
      cases hy : cs[off]? with
      | none => simp [hy] at h
      | some z =>
        simp only [hy, Option.map_some, Option.some.injEq] at h
        subst h
        have hlt : off < vs.size := by rw [hcs.1]; exact (List.getElem?_eq_some_iff.1 hy).1
        have hv : vs[off]? = some vs[off] := by simp [hlt]
        exact ⟨vs[off], by simp [part, run_isAgg hu, hd, hv], .p (hcs.2 _ _ _ hy hv)⟩
  · rename_i cs
    have hcs : vs.size = cs.length ∧ ∀ (i : Nat) x v, cs[i]? = some x → vs[i]? = some v → RelV σ H w x v := by
      cases hx with | agg _ hl h1 h => exact ⟨hl, h⟩
    have hone : ∀ (i : Nat) v, vs[i]? = some v → v.oneCell' = true := by
      cases hx with | agg _ hl h1 h => exact h1
    by_cases hd : isAggD d = true
    · rw [if_pos hd] at h
      split at h
      case isFalse => cases h
      rename_i hle
      cases h
      refine ⟨.agg (vs.extract off (off + P.cellsOf t)), ?_, mkAgg_rel (by simp; omega) (hsub hone) fun i x v hx hv => ?_⟩
      · simp [part, run_isAgg hu, hd, run_sizeOf_und hu]
      · have hi : i < P.cellsOf t := by
          rcases Nat.lt_or_ge i (P.cellsOf t) with h' | h'
          · exact h'
          · simp [List.getElem?_take, Nat.not_lt.2 h'] at hx
        rw [hget i hi] at hv
        simp [List.getElem?_take, hi] at hx
        exact hcs.2 _ _ _ hx hv
    · have hd : isAggD d = false := by simpa using hd
      rw [if_neg (by simp [hd])] at h
      have hlt : off < vs.size := by rw [hcs.1]; exact (List.getElem?_eq_some_iff.1 h).1
      have hv : vs[off]? = some vs[off] := by simp [hlt]
      exact ⟨vs[off], by simp [part, run_isAgg hu, hd, hv], hcs.2 _ _ _ h hv⟩

def AV.isAggV : AV → Bool
  | .p (.agg _) | .agg _ => true
  | _ => false

theorem AV.agg_inv {x : AV} {v : Value} (h : x.isAggV = true) (r : RelV σ H w x v) : ∃ vs, v = .agg vs := by
  cases x with
  | p x => cases x <;> simp [AV.isAggV] at h; cases r with | p r => cases r; exact ⟨_, rfl⟩
  | agg xs => cases r; exact ⟨_, rfl⟩
  | _ => simp [AV.isAggV] at h

def aField (P : Program) (s : TypeId) (x : AV) (field : Nat) : Option AV :=
  match P.underlying s with
  | some (.struct fields) =>
    match fields[field]? with
    | some f => if x.isAggV then aPart P f.type x f.offset else none
    | none => none
  | _ => none

theorem aField_run {s : TypeId} {x y : AV} {field : Nat} {vx : Value} (h : aField P s x field = some y) (hx : RelV σ H w x vx) :
    ∃ v, (Instr.field s vx field).run P w = .ok v w ∧ RelV σ H w y v := by
  unfold aField at h
  split at h
  case h_2 => cases h
  rename_i fields hu
  split at h
  case h_2 => cases h
  rename_i f hf
  split at h
  case isFalse => cases h
  rename_i ha
  obtain ⟨vs, rfl⟩ := AV.agg_inv ha hx
  obtain ⟨v, hv, hy⟩ := aPart_run h hx
  exact ⟨v, by simp [Instr.field, run_underlying hu, hf, asAgg, hv], hy⟩

def aIndex (P : Program) (t : TypeId) (x ix : AV) : Option AV :=
  match ix.int? with
  | some n =>
    match P.underlying t, x with
    | some (.array len e), x => if 0 ≤ n ∧ n.toNat < len ∧ 0 < P.cellsOf e ∧ x.isAggV then aPart P e x (n.toNat * P.cellsOf e) else none
    | some .string, .p (.s (.string s)) => if 0 ≤ n then (s[n.toNat]?).map fun b => .p (.s (.int .u8 b.toNat)) else none
    | _, _ => none
  | none => none

theorem aIndex_run {t : TypeId} {x ix y : AV} {vx vi : Value} (h : aIndex P t x ix = some y) (hx : RelV σ H w x vx) (hi : RelV σ H w ix vi) :
    ∃ v, (Instr.index t vx vi).run P w = .ok v w ∧ RelV σ H w y v := by
  unfold aIndex at h
  split at h
  case h_2 => cases h
  rename_i n hn
  obtain ⟨k, rfl⟩ := AV.int?_inv hn hi
  split at h
  case h_3 => cases h
  · rename_i len e x hu
    split at h
    case isFalse => cases h
    rename_i hc
    obtain ⟨h0, hlt, hz, ha⟩ := hc
    obtain ⟨vs, rfl⟩ := AV.agg_inv ha hx
    obtain ⟨v, hv, hy⟩ := aPart_run h hx
    refine ⟨v, ?_, hy⟩
    simp only [Instr.index, asIntOf, Sem.run_bind, Sem.run_pure, Result.andThen_ok, run_underlying hu]
    rw [if_pos ⟨h0, by omega⟩]
    simp [run_sizeOf_pos hz, hv]
  · rename_i s hu
    split at h
    case isFalse => cases h
    rename_i h0
    cases hb : s[n.toNat]? with
    | none => simp [hb] at h
    | some b =>
      simp only [hb, Option.map_some, Option.some.injEq] at h
      subst h
      obtain rfl : vx = .string s := by cases hx with | p hx => cases hx; rfl
      refine ⟨.int .u8 b.toNat, ?_, .p (.s _ rfl)⟩
      simp only [Instr.index, asIntOf, Sem.run_bind, Sem.run_pure, Result.andThen_ok, run_underlying hu]
      rw [if_pos h0, hb]
      simp
end memory

end Go.AL
