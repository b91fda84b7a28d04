/-
  append, copy, make, composite literals, slicing, len, and bytes to strings, on abstract values.
  Conditions: none; nothing here speaks of one program.
-/
import Derived.Test.YtkpeknkpleocgaaDoorEngF
set_option linter.unusedSimpArgs false
set_option linter.unusedVariables false
namespace Go.AL
open Go

def zfits (P : Program) (e : TypeId) : Bool := match azero P e with | some ps => ps.length == P.cellsOf e | none => false

section vec
variable {P : Program} {G : Globs} {σ : Gh} {H : Hp} {w : World}

/-- A slice of a row that is written by name, not out of date. -/
theorem vr_row (hr : Rel G σ H w) {b len sz : Nat} {cs : List AV} {v : Value} (hb : (H.f b).bind AB.vec? = some cs) (h : VecOK σ H b len sz v) (hl : cs.length = len * sz) :
    ∃ a cap, v = .slice a len cap ∧ AdOK a len ∧ ((len = 0 ∧ cap = 0 ∧ σ.t b = none) ∨ ∃ g s, a = some ⟨g, 0, none⟩ ∧ σ.t b = some (g, 0, s) ∧ cap * sz ≤ s ∧ len ≤ cap ∧ cap ≤ maxLen ∧ cs.length ≤ s ∧
      ∀ (i : Nat) x, cs[i]? = some x → ∃ v, w.cell? ⟨g, i, none⟩ = some v ∧ RelC σ H w x v) := by
  obtain ⟨k, hk⟩ := vec?_inv hb
  obtain ⟨hn, a, cap, rfl, hado, h⟩ := h
  obtain ⟨rfl, _, h2⟩ := hr.vec b k cs hk
  refine ⟨a, cap, rfl, hado, ?_⟩
  rcases (h _ _ hk).2 hl.symm with h | ⟨g, s, h3, h4, h5, h6, h7⟩
  · exact .inl h
  · exact .inr ⟨g, s, h3, h4, h5, h6, h7, (h2 g 0 s h4).2⟩
end vec

section elems
variable {P : Program} {G : Globs} {σ : Gh} {H : Hp} {w : World}

/-- What is read of a value's elements, in any world with this heap. -/
theorem aElems_run (hr : Rel G σ H w) {e : TypeId} {x : AV} {ys : List PV} {vx : Value} (h : aElems P H e x = some ys) (hx : RelV σ H w x vx) :
    ∃ news : List Value, news.length = ys.length * P.cellsOf e ∧ (∀ y ∈ ys, y.cells.length = P.cellsOf e) ∧
      (∀ (k : Nat) y u, (flat ys)[k]? = some y → news[k]? = some u → RelP w (Stable σ H) y u ∧ u.oneCell' = true) ∧
      (∀ w' : World, (Builtin.lenOf vx).run P w' = .ok ys.length w') ∧
      (∀ w' : World, w'.heap = w.heap → ∀ n, n ≤ ys.length → (Builtin.firstCells (P.cellsOf e) n vx).run P w' = .ok (news.take (n * P.cellsOf e)).toArray w') := by
  have sl : ∀ (fl : Bool) (sz : Nat) (zs : List PV), RelP w (Stable σ H) (.sl fl sz zs) vx → (sz = P.cellsOf e ∨ zs.isEmpty = true) → zs = ys → ∃ news : List Value, news.length = ys.length * P.cellsOf e ∧ (∀ y ∈ ys, y.cells.length = P.cellsOf e) ∧
      (∀ (k : Nat) y u, (flat ys)[k]? = some y → news[k]? = some u → RelP w (Stable σ H) y u ∧ u.oneCell' = true) ∧
      (∀ w' : World, (Builtin.lenOf vx).run P w' = .ok ys.length w') ∧
      (∀ w' : World, w'.heap = w.heap → ∀ n, n ≤ ys.length → (Builtin.firstCells (P.cellsOf e) n vx).run P w' = .ok (news.take (n * P.cellsOf e)).toArray w') := by
    intro fl sz zs hp hs hzs
    subst hzs
    cases hp with
    | nil =>
      exact ⟨[], by simp, by simp, by simp [flat], fun _ => rfl, fun w' _ n hn => by simp [Builtin.firstCells]⟩
    | sl fl sz zs g off cap f hfl hcap hsz hrd hc =>
      have hsz' : ∀ y ∈ zs, y.cells.length = P.cellsOf e := by
        rcases hs with rfl | hs
        · exact hsz
        · simp at hs; subst hs; simp
      have hmul : zs.length * sz = zs.length * P.cellsOf e := by
        rcases hs with rfl | hs
        · rfl
        · simp at hs; subst hs; simp
      refine ⟨(List.range (zs.length * P.cellsOf e)).map f, by simp, hsz', fun k y u hk hu => ?_, fun _ => rfl, fun w' hw' n hn => ?_⟩
      · have hlt : k < zs.length * P.cellsOf e := by rw [← flat_len hsz']; exact (List.getElem?_eq_some_iff.1 hk).1
        simp [hlt] at hu
        subst hu
        exact ⟨hc k y hk, (hrd k (by omega)).2.2⟩
      · have hle : n * P.cellsOf e ≤ zs.length * P.cellsOf e := Nat.mul_le_mul_right _ hn
        refine run_firstCells_some (P := P) w' (P.cellsOf e) n _ _ _ _ (by rw [List.length_take, List.length_map, List.length_range, Nat.min_eq_left hle]) fun j v hv => ?_
        have hj : j < n * P.cellsOf e := by
          rcases Nat.lt_or_ge j (n * P.cellsOf e) with h' | h'
          · exact h'
          · simp [List.getElem?_take, Nat.not_lt.2 h'] at hv
        simp [List.getElem?_take, hj, show j < zs.length * P.cellsOf e by omega] at hv
        subst hv
        rw [add_none]
        have := (hrd j (by omega)).2.1
        simpa [World.cell?, hw'] using this
  unfold aElems at h
  split at h
  · rename_i fl sz zs
    split at h
    case isFalse => cases h
    rename_i hs; cases h
    cases hx with | p hp => exact sl fl sz _ hp hs rfl
  · rename_i α k sz zs
    split at h
    case isFalse => cases h
    rename_i hs; cases h
    cases hx with | sl hp ht => exact sl false sz _ hp hs rfl
  · rename_i b off len sz
    split at h
    case h_2 => cases h
    rename_i cs hb
    split at h
    case isFalse => cases h
    rename_i hs
    subst hs
    obtain ⟨hl, hle, hsz, hfl⟩ := refElems_get h
    obtain ⟨hfl1, hfl2⟩ := pvs?_get hfl
    cases hx with | @ref _ _ _ _ cap a h0 hbn hcap ha =>
    have hcell : ∀ k y, (flat ys)[k]? = some y → ∃ v, w.cell? ⟨σ.c b, off + k, none⟩ = some v ∧ RelP w (Stable σ H) y v ∧ v.oneCell' = true := fun k y hk => by
      obtain ⟨x, hx, hxy⟩ := hfl2 k y hk
      have hlt : k < len * P.cellsOf e := by
        rcases Nat.lt_or_ge k (len * P.cellsOf e) with h' | h'
        · exact h'
        · simp [List.getElem?_take, Nat.not_lt.2 h'] at hx
      simp [List.getElem?_take, hlt, List.getElem?_drop] at hx
      obtain ⟨v, a, b, c⟩ := cells_cell hr hb hx
      exact ⟨v, a, AV.pv?_rel hxy b, c⟩
    let f : Nat → Value := fun k => (w.cell? ⟨σ.c b, off + k, none⟩).getD undef
    have hfn : (flat ys).length = len * P.cellsOf e := by rw [flat_len hsz, hl]
    have hf : ∀ k, k < len * P.cellsOf e → w.cell? ⟨σ.c b, off + k, none⟩ = some (f k) := fun k hk => by
      obtain ⟨v, hv, _⟩ := hcell k ((flat ys)[k]'(by omega)) (by simp)
      simp [f, hv]
    refine ⟨(List.range (len * P.cellsOf e)).map f, by simp [hl], hsz, fun k y u hk hu => ?_, fun _ => by rw [hl]; rfl, fun w' hw' n hn => ?_⟩
    · obtain ⟨v, hv, h1, h2⟩ := hcell k y hk
      have hlt : k < len * P.cellsOf e := by rw [← hfn]; exact (List.getElem?_eq_some_iff.1 hk).1
      simp [hlt, f, hv] at hu
      subst hu
      exact ⟨h1, h2⟩
    · have hle' : n * P.cellsOf e ≤ len * P.cellsOf e := Nat.mul_le_mul_right _ (by omega)
      refine run_firstCells_some (P := P) w' (P.cellsOf e) n _ _ _ _ (by rw [List.length_take, List.length_map, List.length_range, Nat.min_eq_left hle']) fun j v hv => ?_
      have hj : j < n * P.cellsOf e := by
        rcases Nat.lt_or_ge j (n * P.cellsOf e) with h' | h'
        · exact h'
        · simp [List.getElem?_take, Nat.not_lt.2 h'] at hv
      simp [List.getElem?_take, hj, show j < len * P.cellsOf e by omega] at hv
      subst hv
      have hlen : 0 < len := by
        rcases Nat.eq_zero_or_pos len with h0 | h0
        · subst h0; simp at hle'; omega
        · exact h0
      rw [ha hlen, add_none]
      have := hf j (by omega)
      simpa [World.cell?, hw'] using this
  · rename_i b len sz
    split at h
    case h_2 => cases h
    rename_i cs hb
    split at h
    case isFalse => cases h
    rename_i hs
    obtain ⟨hs, hcl⟩ := hs
    subst hs
    obtain ⟨hl, hle, hsz, hfl⟩ := refElems_get h
    obtain ⟨hfl1, hfl2⟩ := pvs?_get hfl
    cases hx with | vr hx =>
    obtain ⟨a, cap, rfl, _, hrow⟩ := vr_row hr hb hx hcl
    rcases hrow with ⟨rfl, _, _⟩ | ⟨g, s, rfl, _, _, _, _, _, hcells⟩
    · have : ys = [] := List.eq_nil_of_length_eq_zero hl
      subst this
      exact ⟨[], by simp, by simp, by simp [flat], fun _ => rfl, fun w' _ n hn => by
        obtain rfl : n = 0 := by simpa using hn
        cases a <;> simp [Builtin.firstCells, loadCells, loadCellsFrom]⟩
    have hcell : ∀ k y, (flat ys)[k]? = some y → ∃ v, w.cell? ⟨g, k, none⟩ = some v ∧ RelP w (Stable σ H) y v ∧ v.oneCell' = true := fun k y hk => by
      obtain ⟨x, hx, hxy⟩ := hfl2 k y hk
      have hlt : k < len * P.cellsOf e := by
        rcases Nat.lt_or_ge k (len * P.cellsOf e) with h' | h'
        · exact h'
        · simp [List.getElem?_take, Nat.not_lt.2 h'] at hx
      simp [List.getElem?_take, hlt] at hx
      obtain ⟨v, a, b, c⟩ := hcells k x hx
      exact ⟨v, a, AV.pv?_rel hxy b, c⟩
    let f : Nat → Value := fun k => (w.cell? ⟨g, k, none⟩).getD undef
    have hfn : (flat ys).length = len * P.cellsOf e := by rw [flat_len hsz, hl]
    have hf : ∀ k, k < len * P.cellsOf e → w.cell? ⟨g, k, none⟩ = some (f k) := fun k hk => by
      obtain ⟨v, hv, _⟩ := hcell k ((flat ys)[k]'(by omega)) (by simp)
      simp [f, hv]
    refine ⟨(List.range (len * P.cellsOf e)).map f, by simp [hl], hsz, fun k y u hk hu => ?_, fun _ => by rw [hl]; rfl, fun w' hw' n hn => ?_⟩
    · obtain ⟨v, hv, h1, h2⟩ := hcell k y hk
      have hlt : k < len * P.cellsOf e := by rw [← hfn]; exact (List.getElem?_eq_some_iff.1 hk).1
      simp [hlt, f, hv] at hu
      subst hu
      exact ⟨h1, h2⟩
    · have hle' : n * P.cellsOf e ≤ len * P.cellsOf e := Nat.mul_le_mul_right _ (by omega)
      refine run_firstCells_some (P := P) w' (P.cellsOf e) n _ _ _ _ (by rw [List.length_take, List.length_map, List.length_range, Nat.min_eq_left hle']) fun j v hv => ?_
      have hj : j < n * P.cellsOf e := by
        rcases Nat.lt_or_ge j (n * P.cellsOf e) with h' | h'
        · exact h'
        · simp [List.getElem?_take, Nat.not_lt.2 h'] at hv
      simp [List.getElem?_take, hj, show j < len * P.cellsOf e by omega] at hv
      subst hv
      rw [add_none, Nat.zero_add]
      have := hf j (by omega)
      simpa [World.cell?, hw'] using this
  · rename_i s
    split at h
    case isFalse => cases h
    rename_i hs
    cases h
    obtain rfl : vx = .string s := by cases hx with | p hp => cases hp; rfl
    refine ⟨s.data.toList.map fun b => .int .u8 b.toNat, by simp [hs], fun y hy => ?_, fun k y u hk hu => ?_, fun _ => ?_, fun w' hw' n hn => ?_⟩
    · simp at hy; obtain ⟨b, _, rfl⟩ := hy; simp [hs, PV.cells]
    · have hfl : flat (s.data.toList.map fun b => (.s (.int .u8 b.toNat) : PV)) = s.data.toList.map fun b => (.s (.int .u8 b.toNat) : PV) := by
        generalize s.data.toList = l
        induction l with
        | nil => rfl
        | cons a l ih => simp only [flat, List.map_cons, List.flatMap_cons, PV.cells, List.singleton_append] at *; rw [ih]
      rw [hfl] at hk
      simp only [List.getElem?_map, Option.map_eq_some_iff] at hk hu
      obtain ⟨b, hb, rfl⟩ := hk
      obtain ⟨b', hb', rfl⟩ := hu
      rw [hb] at hb'; cases hb'
      exact ⟨.s _ rfl, rfl⟩
    · simp [Builtin.lenOf]
    · simp only [List.length_map, Array.length_toList] at hn
      simp only [Builtin.firstCells, hs, Nat.mul_one, Sem.run_pure]
      congr 1
      apply Array.ext'
      simp [List.map_take, ByteArray.data_extract, Array.toList_extract, List.extract_eq_take_drop]
  · cases h

end elems

def isSeq : TypeDesc → Bool
  | .slice _ | .string => true
  | _ => false

theorem isSeq_inv {d : TypeDesc} (h : isSeq d = true) : (∃ e, d = .slice e) ∨ d = .string := by
  cases d <;> simp [isSeq] at h
  · exact .inr rfl
  · exact .inl ⟨_, rfl⟩

def aAppend (P : Program) (H : Hp) (t u : TypeId) (s x : AV) : Option (AV × Hp) :=
  match P.underlying t, P.underlying u with
  | some (.slice e), some d =>
    match (if isSeq d then aElems P H e x else none) with
    | some ys =>
      match s with
      | .p (.sl true sz xs) =>
        if (sz = P.cellsOf e ∨ xs.isEmpty) ∧ 0 < P.bytesOf e ∧ (xs.length + ys.length) * P.bytesOf e ≤ 140737488355328 ∧ zfits P e then
          some (.sl H.n 0 (P.cellsOf e) (xs ++ ys), H.new (.tail 0)) else none
      | .sl α k sz xs =>
        match H.f α with
        | some (.tl k' none) =>
          if k' = k ∧ sz = P.cellsOf e ∧ 0 < P.bytesOf e ∧ (xs.length + ys.length) * P.bytesOf e ≤ 140737488355328 ∧ zfits P e then
            some (.sl α (k + 1) (P.cellsOf e) (xs ++ ys), H.set α (.tail (k + 1))) else none
        | _ => none
      | .vr b len sz =>
        match (H.f b).bind AB.vec? with
        | some cs =>
          if cs.length = len * sz ∧ sz = P.cellsOf e ∧ 0 < sz ∧ 0 < P.bytesOf e ∧ (len + ys.length) * P.bytesOf e ≤ 140737488355328 ∧ zfits P e then
            some (.vr b (len + ys.length) sz, H.set b (.vec (cs ++ (flat ys).map .p))) else none
        | none => none
      | _ => none
    | none => none
  | _, _ => none

section append
variable {P : Program} {G : Globs} {σ : Gh} {H : Hp} {w : World}

/-- The machine's append, where there is room and where there is none. -/
theorem run_append_room' {t u ty e : TypeId} {d : TypeDesc} (ht : P.underlying t = some (.slice e)) (hu : P.underlying u = some d) (hd : isSeq d = true) (hi : 0 < P.bytesOf e)
    {base : Option Addr} {sLen sCap n : Nat} {vx : Value} {news : List Value} (hlen : (Builtin.lenOf vx).run P w = .ok n w) (hnews : (Builtin.firstCells (P.cellsOf e) n vx).run P w = .ok news.toArray w)
    (hroom : sLen + n ≤ sCap) : (Builtin.append_ #[t, u] ty #[.slice base sLen sCap, vx]).run P w =
      (match base with | some a => (storeCells (a.add (sLen * P.cellsOf e)) news).run P w | none => .ok () w).andThen fun _ w' => .ok (.slice base (sLen + n) sCap) w' := by
  obtain ⟨i, hi'⟩ : ∃ i, P.info? e = some i := by
    unfold Program.bytesOf at hi
    cases h : P.info? e with
    | none => simp [h] at hi
    | some i => exact ⟨i, rfl⟩
  have hsz : i.size = P.cellsOf e := by simp [Program.cellsOf, hi']
  have hss : (sizeOf e).run P w = .ok (P.cellsOf e) w := by simp [sizeOf, typeInfo, hi', hsz]
  rcases isSeq_inv hd with ⟨e', rfl⟩ | rfl
  · cases base <;> simp [Builtin.append_, run_underlying ht, run_underlying hu, hss, hlen, hroom, hnews]
  · cases base <;> simp [Builtin.append_, run_underlying ht, run_underlying hu, hss, hlen, hroom, hnews]

theorem run_append_full' {t u ty e : TypeId} {d : TypeDesc} (ht : P.underlying t = some (.slice e)) (hu : P.underlying u = some d) (hd : isSeq d = true) (hi : 0 < P.bytesOf e)
    {z : Value} (hz : (P.info? e).bind (·.zero) = some z)
    {base : Option Addr} {sLen sCap n : Nat} {vx : Value} {olds news : List Value} (hlen : (Builtin.lenOf vx).run P w = .ok n w) (hnews : (Builtin.firstCells (P.cellsOf e) n vx).run P w.drew = .ok news.toArray w.drew)
    (holds : (Builtin.firstCells (P.cellsOf e) sLen (.slice base sLen sCap)).run P w.drew = .ok olds.toArray w.drew)
    (hroom : sCap < sLen + n) (hfit : (sLen + n) * P.bytesOf e ≤ 140737488355328) : (Builtin.append_ #[t, u] ty #[.slice base sLen sCap, vx]).run P w =
      .ok (.slice (some ⟨w.heap.size, 0, none⟩) (sLen + n) (grownCap w (sLen + n) sCap e)) (w.drew.alloc (.cells (olds.toArray ++ news.toArray ++ Builtin.zeroCells z.cells (grownCap w (sLen + n) sCap e - (sLen + n))) e)) := by
  obtain ⟨i, hi'⟩ : ∃ i, P.info? e = some i := by
    unfold Program.bytesOf at hi
    cases h : P.info? e with
    | none => simp [h] at hi
    | some i => exact ⟨i, rfl⟩
  have hsz : i.size = P.cellsOf e := by simp [Program.cellsOf, hi']
  have hby : i.bytes = P.bytesOf e := by simp [Program.bytesOf, hi']
  have hiz : i.zero = some z := by simpa [hi'] using hz
  have hss : (sizeOf e).run P w = .ok (P.cellsOf e) w := by simp [sizeOf, typeInfo, hi', hsz]
  have hti : ∀ w : World, (typeInfo e).run P w = .ok i w := fun w => by simp [typeInfo, hi']
  have hzv : (zeroValue e).run P w.drew = .ok z w.drew := by simp [zeroValue, typeInfo, hi', hiz]
  have hn : ¬ (sLen + n ≤ sCap) := by omega
  have h47 : sLen + n ≤ 140737488355328 := Nat.le_trans (Nat.le_mul_of_pos_right _ hi) hfit
  have hfits : ¬ (Builtin.nextslicecap (sLen + n) sCap * i.bytes > 2 ^ 48) := by
    have := growslice_fits (need := sLen + n) (old := sCap) (bytes := i.bytes) hroom (by rw [hby]; exact hfit)
    omega
  have h63 : ¬ (9223372036854775807 < ((sLen : Int) + (n : Int))) := by omega
  have hfits' : ¬ (281474976710656 < Builtin.nextslicecap (sLen + n) sCap * i.bytes) := by simpa using hfits
  have hbn : ¬ i.bytes = 0 := by omega
  rcases isSeq_inv hd with ⟨e', rfl⟩ | rfl
  · simp [Builtin.append_, run_underlying ht, run_underlying hu, hss, hlen, hn, hti, hfits', hbn, Question.forced, holds, hnews, hzv, newRow, grownCap]
    congr 2; apply Array.ext'; simp [List.append_assoc]
  · simp [Builtin.append_, run_underlying ht, run_underlying hu, hss, hlen, hn, hti, hfits', hbn, Question.forced, holds, hnews, hzv, newRow, grownCap]
    congr 2; apply Array.ext'; simp [List.append_assoc]

/-- A new row, read as a slice whose holder may append. -/
theorem grown_rel (hr : Rel G σ H w) {e : TypeId} {sz : Nat} {zs : List PV} (hsz : ∀ y ∈ zs, y.cells.length = sz) (cells : List Value) (hl : cells.length = zs.length * sz)
    (hc : ∀ (k : Nat) y u, (flat zs)[k]? = some y → cells[k]? = some u → RelP w (Stable σ H) y u ∧ u.oneCell' = true) (hc' : ∀ u ∈ cells, u.oneCell' = true) (rest : Array Value) {cap : Nat} (hcap : zs.length ≤ cap ∧ cap ≤ maxLen)
    (hsize : (cells.toArray ++ rest).size = cap * sz) {α k : Nat} {H' : Hp} {w' : World} (hw' : w' = w.drew.alloc (.cells (cells.toArray ++ rest) e))
    (hH : H'.f α = some (.tail k)) (hother : ∀ b, b ≠ α → H'.f b = H.f b)
    (hrel : Rel G (σ.withT α (some (w.heap.size, zs.length * sz, cap * sz))) H' w') (hev : Ev H.n σ H w (σ.withT α (some (w.heap.size, zs.length * sz, cap * sz))) H' w') :
    RelV (σ.withT α (some (w.heap.size, zs.length * sz, cap * sz))) H' w' (.sl α k sz zs) (.slice (some ⟨w.heap.size, 0, none⟩) zs.length cap) := by
  have hst : ∀ o, o < zs.length * sz → Stable (σ.withT α (some (w.heap.size, zs.length * sz, cap * sz))) H' w.heap.size o := fun o ho => by
    refine ⟨fun b cs hb => ?_, fun b j d o' s hb ht => ?_⟩
    · have hne : b ≠ α := fun h => by rw [h, hH] at hb; cases hb
      rw [hother b hne] at hb
      have := hr.c_lt hb
      show σ.c b ≠ _
      omega
    · by_cases hne : b = α
      · simp only [Gh.withT, hne, if_true, Option.some.injEq, Prod.mk.injEq] at ht; omega
      · rw [hother b hne] at hb
        simp only [Gh.withT, hne, if_false] at ht
        have := hr.t_lt hb ht; omega
  have hcell : ∀ k, k < zs.length * sz → w'.cell? ⟨w.heap.size, 0 + k, none⟩ = some (cells.getD k undef) := fun k hk => by
    subst hw'
    have : k < cells.length := by omega
    rw [World.cell?, show (w.drew.alloc (.cells (cells.toArray ++ rest) e)).heap[w.heap.size]? = some (.cells (cells.toArray ++ rest) e) from heap_alloc_new w.drew _]
    simp only [Option.isSome_none, Bool.false_eq_true, if_false, Nat.zero_add]
    rw [Array.getElem?_append_left (by simpa using this)]
    simp [this]
  refine .sl (.sl false sz zs w.heap.size 0 cap (fun k => cells.getD k undef) (by simp) hcap hsz (fun k hk => ⟨?_, hcell k hk, ?_⟩) (fun k y hk => ?_)) ⟨Hp.lt hH, fun k0 d hk0 => ?_⟩
  · rw [Nat.zero_add]; exact hst k hk
  · have : k < cells.length := by omega
    simp only [List.getD_eq_getElem?_getD, List.getElem?_eq_getElem this, Option.getD_some]
    exact hc' _ (by simp)
  · have hlt : k < cells.length := by rw [hl, ← flat_len hsz]; exact (List.getElem?_eq_some_iff.1 hk).1
    simp only [List.getD_eq_getElem?_getD, List.getElem?_eq_getElem hlt, Option.getD_some]
    exact (hc k y _ hk (by simp)).1.mono hev.cell
  · rw [hH] at hk0; cases hk0
    exact ⟨Nat.le_refl _, fun _ => .inr ⟨w.heap.size, 0, zs.length, cap, cap * sz, rfl, by simp [Gh.withT], by omega⟩⟩

theorem flat_append (xs ys : List PV) : flat (xs ++ ys) = flat xs ++ flat ys := by simp [flat]

/-- The new cells of a row that is written by name. -/
theorem vrGrown {w w1 : World} {cs : List AV} {ys : List PV} {cells news : List Value} {g : Nat} (hcl : cells.length = cs.length) (hnl : news.length = (flat ys).length)
    (hold : ∀ (i : Nat) x, cs[i]? = some x → ∃ v, cells[i]? = some v ∧ RelC σ H w x v) (hnew : ∀ (k : Nat) y u, (flat ys)[k]? = some y → news[k]? = some u → RelP w (Stable σ H) y u ∧ u.oneCell' = true)
    (hcell : ∀ i v, (cells ++ news)[i]? = some v → w1.cell? ⟨g, i, none⟩ = some v) : ∀ (i : Nat) x, (cs ++ (flat ys).map AV.p)[i]? = some x → ∃ v, w1.cell? ⟨g, i, none⟩ = some v ∧ RelC σ H w x v := by
  intro i x hx
  by_cases hi : i < cs.length
  · rw [List.getElem?_append_left hi] at hx
    obtain ⟨v, h1, h2⟩ := hold i x hx
    exact ⟨v, hcell i v (by rw [List.getElem?_append_left (by omega)]; exact h1), h2⟩
  · rw [List.getElem?_append_right (by omega)] at hx
    simp only [List.getElem?_map, Option.map_eq_some_iff] at hx
    obtain ⟨y, hy, rfl⟩ := hx
    have hlt : i - cs.length < news.length := by rw [hnl]; exact (List.getElem?_eq_some_iff.1 hy).1
    have hu : news[i - cs.length]? = some news[i - cs.length] := by simp [hlt]
    obtain ⟨h1, h2⟩ := hnew _ _ _ hy hu
    exact ⟨_, hcell i _ (by rw [List.getElem?_append_right (by omega), hcl]; exact hu), .p h1, h2⟩

theorem vrAppend_run {t u ty e : TypeId} {d : TypeDesc} {b len sz : Nat} {cs : List AV} {ys : List PV} {x : AV} {vs vx : Value} (hr : Rel G σ H w) (ht : P.underlying t = some (.slice e)) (hu : P.underlying u = some d) (hne : isSeq d = true)
    (hys : aElems P H e x = some ys) (hx : RelV σ H w x vx) (hb : (H.f b).bind AB.vec? = some cs) (hcl : cs.length = len * sz) (hsz : sz = P.cellsOf e) (hs0 : 0 < sz) (hby : 0 < P.bytesOf e) (hfit : (len + ys.length) * P.bytesOf e ≤ 140737488355328) (hzf : zfits P e = true)
    (hs : VecOK σ H b len sz vs) :
    ∃ v w' σ', (Builtin.append_ #[t, u] ty #[vs, vx]).run P w = .ok v w' ∧ RelV σ' (H.set b (.vec (cs ++ (flat ys).map .p))) w' (.vr b (len + ys.length) sz) v ∧ Rel G σ' (H.set b (.vec (cs ++ (flat ys).map .p))) w' ∧ Ev H.n σ H w σ' (H.set b (.vec (cs ++ (flat ys).map .p))) w' := by
  subst hsz
  obtain ⟨news, hnl, hnsz, hnc, hnlen, hnf⟩ := aElems_run hr hys hx
  have hfl : (flat ys).length = ys.length * P.cellsOf e := flat_len hnsz
  have hnews1 : ∀ u ∈ news, u.oneCell' = true := fun u hu => by
    obtain ⟨k, hk⟩ := List.getElem?_of_mem hu
    have hlt : k < (flat ys).length := by rw [hfl, ← hnl]; exact (List.getElem?_eq_some_iff.1 hk).1
    exact (hnc k (flat ys)[k] u (by simp) hk).2
  have htake : news.take (ys.length * P.cellsOf e) = news := by rw [← hnl]; exact List.take_length
  have hfc : ∀ w' : World, w'.heap = w.heap → (Builtin.firstCells (P.cellsOf e) ys.length vx).run P w' = .ok news.toArray w' := fun w' hw' => by
    have := hnf w' hw' ys.length (Nat.le_refl _)
    rwa [htake] at this
  have hbn := hs.1
  obtain ⟨k, hk⟩ := vec?_inv hb
  obtain ⟨hkl, hnone, _⟩ := hr.vec b k cs hk
  have hlen' : (cs ++ (flat ys).map AV.p).length = (len + ys.length) * P.cellsOf e := by rw [List.length_append, List.length_map, hfl, hcl, Nat.add_mul]
  have hf2 : (H.set b (.vec (cs ++ (flat ys).map .p))).f b = some (.vec (cs ++ (flat ys).map .p)) := Hp.f_set_self _ _ _ hbn
  obtain ⟨base, cap, rfl, hado, hrow⟩ := vr_row hr hb hs hcl
  by_cases hroom : len + ys.length ≤ cap
  · have hrun := run_append_room' (w := w) (ty := ty) (base := base) (sLen := len) (sCap := cap) (n := ys.length) ht hu hne hby (hnlen w) (hfc w rfl) hroom
    rcases hrow with ⟨rfl, rfl, hσ⟩ | ⟨g, s, rfl, hσ, hcs, hlc, hcm, hcls, hcells⟩
    · have hy : ys = [] := List.eq_nil_of_length_eq_zero (by omega)
      subst hy
      have hnn : news = [] := List.eq_nil_of_length_eq_zero (by simpa using hnl)
      subst hnn
      have hcs0 := hnone hσ
      subst hcs0
      obtain ⟨h1, h2⟩ := rel_setTl (G := G) hr hk (w' := w) (Nat.le_refl _) (fun _ _ _ => rfl) (fun _ _ _ _ _ _ _ h => h) rfl rfl 0 (some []) none ⟨by rw [hkl]; exact Nat.le_refl _, fun _ => hσ.symm⟩ (by simp) (fun ds hd => by cases hd; exact ⟨rfl, fun _ => rfl, fun _ _ _ h => by cases h⟩)
      refine ⟨.slice base 0 0, w, _, ?_, .vr ⟨by rw [Hp.n_set]; exact hbn, base, 0, rfl, hado, fun k0 c hk0 => ?_⟩, h1, h2⟩
      · rw [hrun]; cases base <;> simp [storeCells]
      · exact ⟨by simp, fun _ => .inl ⟨rfl, rfl, by simp [Gh.withT]⟩⟩
    · obtain ⟨c, ec, hg, hcsz⟩ := hr.tail b k _ g _ s hk hσ
      have hmul : (len + ys.length) * P.cellsOf e ≤ cap * P.cellsOf e := Nat.mul_le_mul_right _ hroom
      rw [Nat.add_mul] at hmul
      have hstore := run_storeCells_at P g (len * P.cellsOf e) ec news 0 c w hg (by rw [hnl, hcsz]; omega) hnews1
      simp only [Nat.add_zero] at hstore
      simp only [add_none, Nat.zero_add, hstore, Result.andThen_ok] at hrun
      generalize hc' : (c.toList.take (len * P.cellsOf e) ++ news ++ c.toList.drop (len * P.cellsOf e + news.length)).toArray = c' at *
      have hself : (w.setRow g c').heap[g]? = some (.cells c' ec (0, 0)) := by simp [World.setRow, Array.getElem?_modify, hg]
      have hother : ∀ g', g' ≠ g → (w.setRow g c').heap[g']? = w.heap[g']? := fun g' hg' => by simp [World.setRow, Array.getElem?_modify, Ne.symm hg']
      have hc's : c'.size = c.size := by rw [← hc']; simp; omega
      have hpre : ∀ i v, (c.toList.take (len * P.cellsOf e) ++ news)[i]? = some v → (w.setRow g c').cell? ⟨g, i, none⟩ = some v := fun i v hv => by
        have hlt := (List.getElem?_eq_some_iff.1 hv).1
        simp only [World.cell?, hself, Option.isSome_none, Bool.false_eq_true, if_false]
        rw [← hc', List.getElem?_toArray, List.getElem?_append_left hlt]
        exact hv
      obtain ⟨h1, h2⟩ := rel_setTl (G := G) hr hk (w' := w.setRow g c') (by simp) (fun g' hg' hn' => hother g' (fun hh => hn' _ _ (hh ▸ hσ))) (fun g' o s' hh i v hi hv => by rw [hσ] at hh; cases hh; omega) rfl rfl
        (cs ++ (flat ys).map AV.p).length (some (cs ++ (flat ys).map AV.p)) (some (g, 0, s)) ⟨by rw [List.length_append]; omega, fun _ => hσ.symm⟩ (fun g' o s' hh => by cases hh; exact ⟨.inr ⟨_, hσ, Nat.le_refl _⟩, c', ec, hself, by rw [hc's, hcsz]⟩) (fun ds hd => by
          cases hd
          refine ⟨rfl, fun h => (by cases h), fun g' o s' hh => ?_⟩
          cases hh
          refine ⟨rfl, by rw [hlen', Nat.add_mul]; omega, vrGrown (cells := c.toList.take (len * P.cellsOf e)) (news := news) (by simp; omega) (by rw [hnl, hfl]) (fun i x hx => ?_) hnc hpre⟩
          obtain ⟨v, hv, hxv⟩ := hcells i x hx
          have hi : i < len * P.cellsOf e := by rw [← hcl]; exact (List.getElem?_eq_some_iff.1 hx).1
          refine ⟨v, ?_, hxv⟩
          rw [List.getElem?_take, if_pos hi]
          simpa [World.cell?, hg] using hv)
      refine ⟨_, _, _, hrun, .vr ⟨by rw [Hp.n_set]; exact hbn, _, cap, rfl, ⟨by simp, by simp⟩, fun k0 c0 hk0 => ?_⟩, h1, h2⟩
      rw [hf2] at hk0
      cases hk0
      exact ⟨by rw [hlen']; exact Nat.le_refl _, fun _ => .inr ⟨g, s, rfl, by simp [Gh.withT], hcs, hroom, hcm⟩⟩
  · have hzz : ∃ ps, azero P e = some ps ∧ ps.length = P.cellsOf e := by
      unfold zfits at hzf
      split at hzf
      · rename_i ps hps; exact ⟨ps, hps, by simpa using hzf⟩
      · cases hzf
    obtain ⟨ps, hps, hpl⟩ := hzz
    obtain ⟨z, _, hz, hzs, _⟩ := azero_run (w := w) (S := Stable σ H) hps
    have holds : ∃ olds : List Value, olds.length = cs.length ∧ (∀ (i : Nat) x, cs[i]? = some x → ∃ v, olds[i]? = some v ∧ RelC σ H w x v) ∧ (Builtin.firstCells (P.cellsOf e) len (.slice base len cap)).run P w.drew = .ok olds.toArray w.drew := by
      rcases hrow with ⟨rfl, rfl, hσ⟩ | ⟨g, s, rfl, hσ, hcs, hlc, hcm, hcls, hcells⟩
      · have hcs0 := hnone hσ
        subst hcs0
        exact ⟨[], rfl, by simp, by cases base <;> simp [Builtin.firstCells, loadCells, loadCellsFrom]⟩
      · refine ⟨(List.range cs.length).map fun k => (w.cell? ⟨g, k, none⟩).getD undef, by simp, fun i x hx => ?_, ?_⟩
        · obtain ⟨v, hv, hxv⟩ := hcells i x hx
          have hi := (List.getElem?_eq_some_iff.1 hx).1
          exact ⟨v, by simp [hi, hv], hxv⟩
        · refine run_firstCells_some (P := P) w.drew (P.cellsOf e) len _ _ _ _ (by simp [hcl]) fun j v hv => ?_
          have hj : j < cs.length := by
            rcases Nat.lt_or_ge j cs.length with h' | h'
            · exact h'
            · simp [Nat.not_lt.2 h'] at hv
          obtain ⟨u, hu, _⟩ := hcells j cs[j] (by simp)
          simp [hj, hu] at hv
          subst hv
          rw [add_none, Nat.zero_add]
          exact hu
    obtain ⟨olds, hol, hoc, hofc⟩ := holds
    have hlc : len ≤ cap := by
      rcases hrow with ⟨rfl, rfl, _⟩ | ⟨_, _, _, _, _, h, _⟩
      · exact Nat.le_refl _
      · exact h
    have hrun := run_append_full' (w := w) (ty := ty) (base := base) (sLen := len) (sCap := cap) (n := ys.length) ht hu hne hby hz (hnlen w) (hfc w.drew rfl) hofc (by omega) hfit
    have hge := grownCap_ge w (len + ys.length) cap e
    have h47 : len + ys.length ≤ 140737488355328 := Nat.le_trans (Nat.le_mul_of_pos_right _ hby) hfit
    have hgm := grownCap_le_maxLen w (len + ys.length) cap e (by unfold maxLen; omega)
    generalize grownCap w (len + ys.length) cap e = nc at *
    have hsize : (olds.toArray ++ news.toArray ++ Builtin.zeroCells z.cells (nc - (len + ys.length))).size = nc * P.cellsOf e := by
      simp only [Array.size_append, List.size_toArray, hol, hcl, hnl, size_zeroCells, hzs, hpl, ← Nat.add_mul]
      congr 1; omega
    generalize hrow' : olds.toArray ++ news.toArray ++ Builtin.zeroCells z.cells (nc - (len + ys.length)) = row at *
    have hpre : ∀ i v, (olds ++ news)[i]? = some v → (w.drew.alloc (.cells row e)).cell? ⟨w.heap.size, i, none⟩ = some v := fun i v hv => by
      have hlt := (List.getElem?_eq_some_iff.1 hv).1
      rw [World.cell?, show (w.drew.alloc (.cells row e)).heap[w.heap.size]? = some (.cells row e) from heap_alloc_new w.drew _]
      simp only [Option.isSome_none, Bool.false_eq_true, if_false]
      rw [← hrow', Array.getElem?_append_left (by simpa using hlt)]
      simpa using hv
    obtain ⟨h1, h2⟩ := rel_setTl (G := G) hr hk (w' := w.drew.alloc (.cells row e)) (by simp) (fun g hg _ => heap_alloc_old w.drew _ hg) (fun g o s hh i v hi hv => by
        have hlt : g < w.heap.size := World.block_lt_of_cell? (a := ⟨g, i, none⟩) w hv
        rw [World.cell?_alloc_lt (a := ⟨g, i, none⟩) w.drew _ hlt]; exact hv) rfl rfl
      (cs ++ (flat ys).map AV.p).length (some (cs ++ (flat ys).map AV.p)) (some (w.heap.size, 0, nc * P.cellsOf e)) ⟨by rw [List.length_append]; omega, fun h => by
        rw [List.length_append, List.length_map, hfl] at h
        have : ys.length * P.cellsOf e = 0 := by omega
        rcases Nat.mul_eq_zero.1 this with h | h <;> omega⟩ (fun g' o s' hh => by cases hh; exact ⟨.inl (Nat.le_refl _), row, e, heap_alloc_new w.drew _, hsize⟩) (fun ds hd => by
        cases hd
        refine ⟨rfl, fun h => (by cases h), fun g' o s' hh => ?_⟩
        cases hh
        refine ⟨rfl, by rw [hlen']; exact Nat.mul_le_mul_right _ hge, vrGrown (cells := olds) (news := news) hol (by rw [hnl, hfl]) hoc hnc hpre⟩)
    refine ⟨_, _, _, hrun, .vr ⟨by rw [Hp.n_set]; exact hbn, _, nc, rfl, ⟨by simp, by simp⟩, fun k0 c0 hk0 => ?_⟩, h1, h2⟩
    rw [hf2] at hk0
    cases hk0
    exact ⟨by rw [hlen']; exact Nat.le_refl _, fun _ => .inr ⟨_, _, rfl, by simp [Gh.withT], Nat.le_refl _, hge, hgm⟩⟩

theorem aAppend_run {t u ty : TypeId} {s x y : AV} {H' : Hp} {vs vx : Value} (hr : Rel G σ H w) (h : aAppend P H t u s x = some (y, H')) (hs : RelV σ H w s vs) (hx : RelV σ H w x vx) :
    ∃ v w' σ', (Builtin.append_ #[t, u] ty #[vs, vx]).run P w = .ok v w' ∧ RelV σ' H' w' y v ∧ Rel G σ' H' w' ∧ Ev H.n σ H w σ' H' w' := by
  unfold aAppend at h
  split at h
  case h_2 => cases h
  rename_i e d ht hu
  split at h
  case h_2 => cases h
  rename_i ys hys
  split at hys
  case isFalse => cases hys
  rename_i hne
  obtain ⟨news, hnl, hnsz, hnc, hnlen, hnf⟩ := aElems_run hr hys hx
  have hnews1 : ∀ u ∈ news, u.oneCell' = true := fun u hu => by
    obtain ⟨k, hk⟩ := List.getElem?_of_mem hu
    have hlt : k < (flat ys).length := by rw [flat_len hnsz, ← hnl]; exact (List.getElem?_eq_some_iff.1 hk).1
    exact (hnc k (flat ys)[k] u (by simp) hk).2
  have htake : news.take (ys.length * P.cellsOf e) = news := by rw [← hnl]; exact List.take_length
  have hfc : ∀ w' : World, w'.heap = w.heap → (Builtin.firstCells (P.cellsOf e) ys.length vx).run P w' = .ok news.toArray w' := fun w' hw' => by
    have := hnf w' hw' ys.length (Nat.le_refl _)
    rwa [htake] at this
  -- the case without room
  have grow : ∀ (fl : Bool) (sz : Nat) (xs : List PV) (base : Option Addr) (cap : Nat), RelP w (Stable σ H) (.sl fl sz xs) (.slice base xs.length cap) → (sz = P.cellsOf e ∨ xs.isEmpty = true) → 0 < P.bytesOf e →
      (xs.length + ys.length) * P.bytesOf e ≤ 140737488355328 → zfits P e = true → cap < xs.length + ys.length → ∀ (α k : Nat) (H2 : Hp), H2.f α = some (.tail k) → (∀ b, b ≠ α → H2.f b = H.f b) →
      (∀ (w' : World) (r : Nat × Nat × Nat), w.heap.size ≤ w'.heap.size → (∀ g, g < w.heap.size → w'.heap[g]? = w.heap[g]?) → w'.os = w.os → w'.output = w.output → r.1 = w.heap.size → (∃ c e, w'.heap[r.1]? = some (.cells c e (0, 0)) ∧ c.size = r.2.2) →
        Rel G (σ.withT α (some r)) H2 w' ∧ Ev H.n σ H w (σ.withT α (some r)) H2 w') →
      ∃ v w' σ', (Builtin.append_ #[t, u] ty #[.slice base xs.length cap, vx]).run P w = .ok v w' ∧ RelV σ' H2 w' (.sl α k (P.cellsOf e) (xs ++ ys)) v ∧ Rel G σ' H2 w' ∧ Ev H.n σ H w σ' H2 w' := by
    intro fl sz xs base cap hp hsz hby hfit hzf hroom α k H2 hH2 hoth hmk
    obtain ⟨olds, hol, hosz, hoc, holen, hof⟩ := aElems_run (P := P) (e := e) (x := .p (.sl fl sz xs)) (ys := xs) hr (by simp only [aElems]; rw [if_pos hsz]) (.p hp)
    have holds1 : ∀ u ∈ olds, u.oneCell' = true := fun u hu => by
      obtain ⟨k, hk⟩ := List.getElem?_of_mem hu
      have hlt : k < (flat xs).length := by rw [flat_len hosz, ← hol]; exact (List.getElem?_eq_some_iff.1 hk).1
      exact (hoc k (flat xs)[k] u (by simp) hk).2
    have hofc : (Builtin.firstCells (P.cellsOf e) xs.length (.slice base xs.length cap)).run P w.drew = .ok olds.toArray w.drew := by
      have := hof w.drew rfl xs.length (Nat.le_refl _)
      rwa [show olds.take (xs.length * P.cellsOf e) = olds by rw [← hol]; exact List.take_length] at this
    have hzz : ∃ ps, azero P e = some ps ∧ ps.length = P.cellsOf e := by
      unfold zfits at hzf
      split at hzf
      · rename_i ps hps; exact ⟨ps, hps, by simpa using hzf⟩
      · cases hzf
    obtain ⟨ps, hps, hpl⟩ := hzz
    obtain ⟨z, _, hz, hzs, _⟩ := azero_run (w := w) (S := Stable σ H) hps
    have hrun := run_append_full' (w := w) (ty := ty) (base := base) (sLen := xs.length) (sCap := cap) (n := ys.length) ht hu hne hby hz (hnlen w) (hfc w.drew rfl) hofc hroom hfit
    have hge := grownCap_ge w (xs.length + ys.length) cap e
    have h47 : xs.length + ys.length ≤ 140737488355328 := Nat.le_trans (Nat.le_mul_of_pos_right _ hby) hfit
    have hgm := grownCap_le_maxLen w (xs.length + ys.length) cap e (by unfold maxLen; omega)
    generalize grownCap w (xs.length + ys.length) cap e = nc at *
    have hsize : ((olds ++ news).toArray ++ Builtin.zeroCells z.cells (nc - (xs.length + ys.length))).size = nc * P.cellsOf e := by
      simp only [Array.size_append, List.size_toArray, List.length_append, hol, hnl, size_zeroCells, hzs, hpl, ← Nat.add_mul]
      congr 1; omega
    have hlen2 : (xs ++ ys).length = xs.length + ys.length := List.length_append
    have heq : (olds.toArray ++ news.toArray ++ Builtin.zeroCells z.cells (nc - (xs.length + ys.length))) = (olds ++ news).toArray ++ Builtin.zeroCells z.cells (nc - (xs.length + ys.length)) := by simp
    rw [heq] at hrun
    obtain ⟨h1, h2⟩ := hmk (w.drew.alloc (.cells ((olds ++ news).toArray ++ Builtin.zeroCells z.cells (nc - (xs.length + ys.length))) e)) (w.heap.size, (xs ++ ys).length * P.cellsOf e, nc * P.cellsOf e)
      (by simp) (fun g hg => heap_alloc_old w.drew _ hg) rfl rfl rfl ⟨_, e, heap_alloc_new w.drew _, hsize⟩
    refine ⟨_, _, _, hrun, ?_, h1, h2⟩
    have hfin := grown_rel (e := e) (sz := P.cellsOf e) (zs := xs ++ ys) (cap := nc) (k := k) hr (fun y hy => (List.mem_append.1 hy).elim (hosz y) (hnsz y)) (olds ++ news)
      (by rw [List.length_append, hol, hnl, hlen2, Nat.add_mul]) (fun k y u hk hu => by
        rw [flat_append] at hk
        by_cases hlt : k < (flat xs).length
        · rw [List.getElem?_append_left hlt] at hk
          rw [List.getElem?_append_left (by rw [hol, ← flat_len hosz]; exact hlt)] at hu
          exact hoc k y u hk hu
        · rw [List.getElem?_append_right (by omega)] at hk
          rw [List.getElem?_append_right (by rw [hol, ← flat_len hosz]; omega), show olds.length = (flat xs).length by rw [hol, flat_len hosz]] at hu
          exact hnc _ y u hk hu)
      (fun u hu => (List.mem_append.1 hu).elim (holds1 u) (hnews1 u)) _ (by rw [hlen2]; exact ⟨hge, hgm⟩) hsize rfl hH2 hoth h1 h2
    rw [hlen2] at hfin
    rw [hlen2]
    exact hfin
  split at h
  · -- nobody has room
    rename_i sz xs
    split at h
    case isFalse => cases h
    rename_i hc
    obtain ⟨hsz, hby, hfit, hzf⟩ := hc
    simp only [Option.some.injEq, Prod.mk.injEq] at h
    obtain ⟨rfl, rfl⟩ := h
    cases hs with | p hp =>
    have hshape : ∃ base, vs = .slice base xs.length xs.length ∧ (base = none → xs = []) := by
      cases hp with
      | nil => exact ⟨none, rfl, fun _ => rfl⟩
      | sl fl sz xs g off cap f hfl hcap hsz hrd hc => exact ⟨some ⟨g, off, none⟩, by rw [hfl rfl], by simp⟩
    obtain ⟨base, rfl, hbase⟩ := hshape
    by_cases hy0 : ys.length = 0
    · have hy : ys = [] := List.eq_nil_of_length_eq_zero hy0
      subst hy
      have hnn : news = [] := List.eq_nil_of_length_eq_zero (by simpa using hnl)
      subst hnn
      obtain ⟨h1, h2⟩ := rel_newTail (G := G) (σ := σ) (H := H) (w := w) hr (w' := w) (Nat.le_refl _) (fun _ _ => rfl) rfl rfl none (by simp)
      have hrun := run_append_room' (w := w) (ty := ty) (base := base) (sLen := xs.length) (sCap := xs.length) (n := 0) ht hu hne hby (hnlen w) (hfc w rfl) (by omega)
      refine ⟨.slice base xs.length xs.length, w, _, ?_, .sl ?_ ⟨by simp [Hp.n_new], fun k0 d hk0 => ?_⟩, h1, h2⟩
      · rw [hrun]; cases base <;> simp [storeCells]
      · have hp' := hp.mono h2.cell
        rw [List.append_nil]
        cases hp' with
        | nil => exact .nil _ _
        | sl fl sz xs g off cap f hfl hcap hsz' hrd hc =>
          have : ∀ x ∈ xs, x.cells.length = P.cellsOf e := by
            rcases hsz with rfl | hsz
            · exact hsz'
            · simp at hsz; subst hsz; simp
          refine .sl false _ xs g off xs.length f (by simp) ⟨Nat.le_refl _, by have := hfl rfl; omega⟩ this (fun k hk => ?_) hc
          rcases hsz with rfl | hsz
          · exact hrd k hk
          · simp at hsz; subst hsz; simp at hk
      · simp [Hp.f_new] at hk0
        exact ⟨by omega, fun _ => .inl ⟨base, xs.length, rfl, by simp [Gh.withT]⟩⟩
    · exact grow true sz xs base xs.length hp hsz hby hfit hzf (by omega) H.n 0 (H.new (.tail 0)) (by simp [Hp.f_new]) (fun b hb => by simp [Hp.f_new, hb]) (fun w' r a1 a2 a3 a4 a5 a6 =>
        rel_newTail hr a1 a2 a3 a4 (some r) (fun g o s hh => by cases hh; exact ⟨by simp only at a5; omega, a6⟩))
  · -- the tail's holder
    rename_i α k sz xs
    split at h
    case h_2 => cases h
    rename_i k' hα
    split at h
    case isFalse => cases h
    rename_i hc
    obtain ⟨rfl, hsz, hby, hfit, hzf⟩ := hc
    simp only [Option.some.injEq, Prod.mk.injEq] at h
    obtain ⟨rfl, rfl⟩ := h
    cases hs with | sl hp htl =>
    obtain ⟨hαn, htl⟩ := htl
    obtain ⟨_, htl⟩ := htl k' _ hα
    have htl := htl rfl
    have hshape : ∃ base cap, vs = .slice base xs.length cap ∧ xs.length ≤ cap := by
      cases hp with
      | nil => exact ⟨none, 0, rfl, Nat.le_refl _⟩
      | sl fl sz xs g off cap f hfl hcap hsz hrd hc => exact ⟨some ⟨g, off, none⟩, cap, rfl, hcap.1⟩
    obtain ⟨base, cap, rfl, hcapl⟩ := hshape
    by_cases hroom : xs.length + ys.length ≤ cap
    · have hrun := run_append_room' (w := w) (ty := ty) (base := base) (sLen := xs.length) (sCap := cap) (n := ys.length) ht hu hne hby (hnlen w) (hfc w rfl) hroom
      rcases htl with ⟨a0, n0, hv, hσ⟩ | ⟨g, off, len, cap', s, hv, hσ, hle⟩
      · cases hv
        have hy : ys = [] := List.eq_nil_of_length_eq_zero (by omega)
        subst hy
        have hnn : news = [] := List.eq_nil_of_length_eq_zero (by simpa using hnl)
        subst hnn
        obtain ⟨h1, h2⟩ := rel_setTail (G := G) hr hα (w' := w) (Nat.le_refl _) (fun _ _ _ => rfl) (fun _ _ _ _ _ _ _ h => h) rfl rfl none (by simp)
        refine ⟨.slice base xs.length xs.length, w, _, ?_, .sl ?_ ⟨by simp [Hp.n_set]; exact hαn, fun k0 d hk0 => ?_⟩, h1, h2⟩
        · rw [hrun]; cases base <;> simp [storeCells]
        · have hp' := hp.mono h2.cell
          rw [List.append_nil]
          cases hp' with
          | nil => exact .nil _ _
          | sl fl sz xs g off cap f hfl hcap hsz' hrd hc =>
            subst hsz
            exact .sl false _ xs g off _ f (by simp) hcap hsz' hrd hc
        · simp [Hp.f_set, hαn] at hk0
          exact ⟨by omega, fun _ => .inl ⟨base, xs.length, rfl, by simp [Gh.withT]⟩⟩
      · cases hv
        obtain ⟨c, ec, hg, hcs⟩ := hr.tail α k' _ g _ s hα hσ
        cases hp with
        | sl fl sz xs g off cap f hfl hcap hsz' hrd hc =>
        have hszE : ∀ y ∈ xs, y.cells.length = P.cellsOf e := hsz ▸ hsz'
        subst hsz
        · have hstore := run_storeCells_at P g (off + xs.length * P.cellsOf e) ec news 0 c w hg (by
            have : (xs.length + ys.length) * P.cellsOf e ≤ cap * P.cellsOf e := Nat.mul_le_mul_right _ hroom
            rw [Nat.add_mul] at this
            rw [hnl, hcs]; omega) hnews1
          simp only [Nat.add_zero] at hstore
          simp only [add_none, hstore, Result.andThen_ok] at hrun
          have hcl : off + xs.length * P.cellsOf e + news.length ≤ c.size := by
            have : (xs.length + ys.length) * P.cellsOf e ≤ cap * P.cellsOf e := Nat.mul_le_mul_right _ hroom
            rw [Nat.add_mul] at this
            rw [hnl, hcs]; omega
          generalize hc' : (c.toList.take (off + xs.length * P.cellsOf e) ++ news ++ c.toList.drop (off + xs.length * P.cellsOf e + news.length)).toArray = c' at *
          have hself : (w.setRow g c').heap[g]? = some (.cells c' ec (0, 0)) := by simp [World.setRow, Array.getElem?_modify, hg]
          have hother : ∀ g', g' ≠ g → (w.setRow g c').heap[g']? = w.heap[g']? := fun g' hg' => by simp [World.setRow, Array.getElem?_modify, Ne.symm hg']
          have hc's : c'.size = c.size := by rw [← hc']; simp; omega
          have hlow : ∀ i, i < off + xs.length * P.cellsOf e → c'[i]? = c[i]? := fun i hi => by
            rw [← hc', List.getElem?_toArray, List.append_assoc, List.getElem?_append_left (by simp; omega), List.getElem?_take, if_pos hi]; simp
          have hmid : ∀ i, i < news.length → c'[off + xs.length * P.cellsOf e + i]? = news[i]? := fun i hi => by
            have hm : min (off + xs.length * P.cellsOf e) c.toList.length = off + xs.length * P.cellsOf e := by simp; omega
            rw [← hc', List.getElem?_toArray, List.append_assoc, List.getElem?_append_right (by simp; omega), List.getElem?_append_left (by simp only [List.length_take, hm]; omega)]
            simp only [List.length_take, hm]
            congr 1; omega
          obtain ⟨h1, h2⟩ := rel_setTail (G := G) hr hα (w' := w.setRow g c') (by simp) (fun g' hg' hn' => hother g' (fun hh => hn' _ _ (hh ▸ hσ))) (fun g' o s' hh i v hi hv => by
              rw [hσ] at hh; cases hh
              simp only [World.cell?, hg] at hv
              simp only [World.cell?, hself, hlow i hi]; exact hv) rfl rfl (some (g, off + (xs ++ ys).length * P.cellsOf e, s)) (fun g' o s' hh => by
              cases hh
              exact ⟨.inr ⟨_, hσ, by rw [List.length_append, Nat.add_mul]; omega⟩, c', ec, hself, by rw [hc's, hcs]⟩)
          refine ⟨_, _, _, hrun, ?_, h1, h2⟩
          have hlen2 : (xs ++ ys).length = xs.length + ys.length := List.length_append
          have hst : ∀ o, o < off + (xs ++ ys).length * P.cellsOf e → Stable (σ.withT α (some (g, off + (xs ++ ys).length * P.cellsOf e, s))) (H.set α (.tail (k' + 1))) g o := fun o ho => by
            refine ⟨fun b cs hb => ?_, fun b j d o' s' hb ht' => ?_⟩
            · rw [Hp.f_set] at hb
              split at hb
              · cases hb
              · exact hr.ct b α cs k' _ g _ s hb hα hσ
            · by_cases hba : b = α
              · simp only [Gh.withT, hba, if_true, Option.some.injEq, Prod.mk.injEq] at ht'; omega
              · rw [Hp.f_set_ne _ _ _ _ hba] at hb
                simp only [Gh.withT, hba, if_false] at ht'
                exact absurd (hr.tt b α j d k' _ g o' s' _ s hb hα ht' hσ) hba
          have hcell : ∀ k, k < (xs ++ ys).length * P.cellsOf e → (w.setRow g c').cell? ⟨g, off + k, none⟩ = some (if k < xs.length * P.cellsOf e then f k else news.getD (k - xs.length * P.cellsOf e) undef) ∧
              (if k < xs.length * P.cellsOf e then f k else news.getD (k - xs.length * P.cellsOf e) undef).oneCell' = true := fun k hk => by
            rw [hlen2, Nat.add_mul] at hk
            simp only [World.cell?, hself]
            by_cases hlt : k < xs.length * P.cellsOf e
            · rw [if_pos hlt]
              have h3 := hrd k hlt
              simp only [World.cell?, hg] at h3
              exact ⟨by rw [hlow _ (by omega)]; exact h3.2.1, h3.2.2⟩
            · rw [if_neg hlt]
              have h4 : k - xs.length * P.cellsOf e < news.length := by omega
              have h5 := hmid (k - xs.length * P.cellsOf e) h4
              rw [show off + xs.length * P.cellsOf e + (k - xs.length * P.cellsOf e) = off + k by omega] at h5
              simp only [List.getD_eq_getElem?_getD, List.getElem?_eq_getElem h4, Option.getD_some]
              exact ⟨by simp only [Option.isSome_none, Bool.false_eq_true, if_false]; rw [h5, List.getElem?_eq_getElem h4], hnews1 _ (by simp)⟩
          rw [← hlen2]
          refine .sl (.sl false _ (xs ++ ys) g off cap _ (by simp) ⟨by omega, hcap.2⟩ (fun y hy => (List.mem_append.1 hy).elim (hszE y) (hnsz y)) (fun k hk => ⟨hst _ (by omega), hcell k hk⟩) (fun k y hk => ?_)) ⟨by simp [Hp.n_set]; exact hαn, fun k0 d hk0 => ?_⟩
          · rw [flat_append] at hk
            by_cases hlt : k < (flat xs).length
            · rw [List.getElem?_append_left hlt] at hk
              rw [flat_len hszE] at hlt
              rw [if_pos hlt]
              exact (hc k y hk).mono h2.cell
            · rw [List.getElem?_append_right (by omega)] at hk
              have hlt' := (List.getElem?_eq_some_iff.1 hk).1
              rw [flat_len hnsz, flat_len hszE] at hlt'
              rw [flat_len hszE] at hlt hk
              rw [if_neg hlt]
              have h4 : k - xs.length * P.cellsOf e < news.length := by omega
              simp only [List.getD_eq_getElem?_getD, List.getElem?_eq_getElem h4, Option.getD_some]
              exact (hnc _ y _ hk (by simp)).1.mono h2.cell
          · simp [Hp.f_set, hαn] at hk0
            exact ⟨by omega, fun _ => .inr ⟨g, off, _, cap, s, rfl, by simp [Gh.withT], hle⟩⟩
    · exact grow false sz xs base cap hp (.inl hsz) hby hfit hzf (by omega) α (k' + 1) (H.set α (.tail (k' + 1))) (by simp [Hp.f_set, hαn]) (fun b hb => by simp [Hp.f_set, hb]) (fun w' r a1 a2 a3 a4 a5 a6 =>
        rel_setTail hr hα a1 (fun g hg _ => a2 g hg) (fun g o s hh i v hi hv => by
          have hlt : g < w.heap.size := World.block_lt_of_cell? (a := ⟨g, i, none⟩) w hv
          simpa [World.cell?, a2 g hlt] using hv) a3 a4 (some r) (fun g o s hh => by cases hh; exact ⟨.inl (by simp only at a5; omega), a6⟩))
  · rename_i b len sz
    split at h
    case h_2 => cases h
    rename_i cs hb
    split at h
    case isFalse => cases h
    rename_i hc
    obtain ⟨hcl, hsz, hs0, hby, hfit, hzf⟩ := hc
    simp only [Option.some.injEq, Prod.mk.injEq] at h
    obtain ⟨rfl, rfl⟩ := h
    cases hs with | vr hs =>
    exact vrAppend_run hr ht hu hne hys hx hb hcl hsz hs0 hby hfit hzf hs
  · cases h
end append

end Go.AL
