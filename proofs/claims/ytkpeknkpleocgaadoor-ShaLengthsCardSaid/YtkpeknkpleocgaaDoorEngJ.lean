/-
  Slicing on abstract values; one operation's step; a region's operations in the text's order.
  Conditions: none; nothing here speaks of one program.
-/
import Derived.Test.YtkpeknkpleocgaaDoorEngI
set_option linter.unusedSimpArgs false
set_option linter.unusedVariables false
namespace Go.AL
open Go

def optInt (d : Int) : Option AV → Option Int
  | none => some d
  | some x => x.int?

def aSlice (P : Program) (t : TypeId) (x : AV) (lo hi mx : Option AV) : Option AV :=
  match P.underlying t with
  | some (.slice e) =>
    if 0 < P.cellsOf e then
    match x with
    | .p (.sl fl sz xs) =>
      match optInt 0 lo, optInt xs.length hi, optInt xs.length mx with
      | some l, some h, some m =>
        if 0 ≤ l ∧ l ≤ h ∧ h ≤ m ∧ m ≤ xs.length ∧ (mx.isSome = true → hi.isSome = true) ∧ (P.cellsOf e = sz ∨ xs.isEmpty) then
          some (.p (.sl ((mx.isSome && h == m) || (mx.isNone && fl && h == xs.length)) sz ((xs.take h.toNat).drop l.toNat))) else none
      | _, _, _ => none
    | .sl α k sz xs =>
      match optInt 0 lo, optInt xs.length hi, optInt xs.length mx with
      | some l, some h, some m =>
        if 0 ≤ l ∧ l ≤ h ∧ h ≤ m ∧ m ≤ xs.length ∧ (mx.isSome = true → hi.isSome = true) ∧ (P.cellsOf e = sz ∨ xs.isEmpty) then
          some (if lo.isNone && hi.isNone && mx.isNone then .sl α k sz xs else .p (.sl (mx.isSome && h == m) sz ((xs.take h.toNat).drop l.toNat))) else none
      | _, _, _ => none
    | .ref b off len sz =>
      match optInt 0 lo, optInt len hi, mx with
      | some l, some h, none => if 0 ≤ l ∧ l ≤ h ∧ h ≤ len ∧ P.cellsOf e = sz then some (.ref b (off + l.toNat * sz) (h.toNat - l.toNat) sz) else none
      | _, _, _ => none
    | _ => none
    else none
  | some (.array n e) =>
    match x with
    | .ptr b off =>
      match optInt 0 lo, optInt n hi, mx with
      | some l, some h, none => if 0 ≤ l ∧ l ≤ h ∧ h ≤ n ∧ n ≤ 9223372036854775807 ∧ 0 < P.cellsOf e then some (.ref b (off + l.toNat * P.cellsOf e) (h.toNat - l.toNat) (P.cellsOf e)) else none
      | _, _, _ => none
    | .ip _ xs i sub =>
      match optInt 0 lo, optInt n hi, mx, xs[i]? with
      | some l, some h, none, some x => if 0 ≤ l ∧ l ≤ h ∧ h ≤ n ∧ n ≤ 9223372036854775807 ∧ P.cellsOf e = 1 ∧ sub = 0 ∧ x.cells.length = n then some (.p (.sl (decide (h = n)) 1 ((x.cells.take h.toNat).drop l.toNat))) else none
      | _, _, _, _ => none
    | _ => none
  | some .string =>
    match x with
    | .p (.s (.string s)) =>
      match optInt 0 lo, optInt s.size hi, mx with
      | some l, some h, none => if 0 ≤ l ∧ l ≤ h ∧ h ≤ s.size then some (.p (.s (.string (s.extract l.toNat h.toNat)))) else none
      | _, _, _ => none
    | _ => none
  | _ => none

section slice
variable {P : Program} {G : Globs} {σ : Gh} {H : Hp} {w : World}

def optRel (σ : Gh) (H : Hp) (w : World) : Option AV → Option Value → Prop
  | none, none => True
  | some x, some v => RelV σ H w x v
  | _, _ => False

theorem optInt_some {d n : Int} {x : AV} {v : Value} (h : optInt d (some x) = some n) (r : RelV σ H w x v) : ∃ k, v = .int k n := AV.int?_inv h r

theorem run_sliceBound {k : IntKind} {n : Int} {y : Nat} {code : BoundsCode} (h0 : 0 ≤ n) (h1 : n ≤ y) : (Instr.sliceBound (.int k n) y code).run P w = .ok n.toNat w := by
  simp [Instr.sliceBound, asIntOf, h0, h1]

/-- The bounds of a slice expression whose limits fit. -/
theorem run_sliceBounds {isSlice : Bool} {len cap : Nat} {lo hi mx : Option AV} {vlo vhi vmx : Option Value} {l h m : Int} (hl : optInt 0 lo = some l) (hh : optInt len hi = some h) (hm : optInt cap mx = some m)
    (r1 : optRel σ H w lo vlo) (r2 : optRel σ H w hi vhi) (r3 : optRel σ H w mx vmx) (c0 : 0 ≤ l) (c1 : l ≤ h) (c2 : h ≤ m) (c3 : m ≤ cap) (c4 : mx.isSome = true → hi.isSome = true) :
    (Instr.sliceBounds isSlice len cap vlo vhi vmx).run P w = .ok (l.toNat, h.toNat, m.toNat) w := by
  unfold Instr.sliceBounds
  cases mx with
  | none =>
    cases vmx with
    | some v => exact r3.elim
    | none =>
      simp only [optInt, Option.some.injEq] at hm
      subst hm
      cases hi with
      | none =>
        cases vhi with
        | some v => exact r2.elim
        | none =>
          simp only [optInt, Option.some.injEq] at hh
          subst hh
          cases lo with
          | none =>
            cases vlo with
            | some v => exact r1.elim
            | none => simp only [optInt, Option.some.injEq] at hl; subst hl; simp
          | some x =>
            cases vlo with
            | none => exact r1.elim
            | some v =>
              obtain ⟨k, rfl⟩ := optInt_some hl r1
              simp [run_sliceBound c0 c1]
      | some x =>
        cases vhi with
        | none => exact r2.elim
        | some v =>
          obtain ⟨k, rfl⟩ := optInt_some hh r2
          have hb := run_sliceBound (P := P) (w := w) (k := k) (code := if isSlice then .sliceAcap else .sliceAlen) (by omega : 0 ≤ h) c2
          cases lo with
          | none =>
            cases vlo with
            | some v => exact r1.elim
            | none => simp only [optInt, Option.some.injEq] at hl; subst hl; simp [hb]
          | some x =>
            cases vlo with
            | none => exact r1.elim
            | some v =>
              obtain ⟨k', rfl⟩ := optInt_some hl r1
              simp [hb, run_sliceBound (P := P) (w := w) (k := k') (y := h.toNat) c0 (by omega)]
  | some y =>
    cases vmx with
    | none => exact r3.elim
    | some v =>
      obtain ⟨km, rfl⟩ := optInt_some hm r3
      have hbm := run_sliceBound (P := P) (w := w) (k := km) (code := if isSlice then .slice3Acap else .slice3Alen) (by omega : 0 ≤ m) c3
      cases hi with
      | none => simp at c4
      | some x =>
        cases vhi with
        | none => exact r2.elim
        | some v =>
          obtain ⟨k, rfl⟩ := optInt_some hh r2
          have hb := run_sliceBound (P := P) (w := w) (k := k) (y := m.toNat) (code := .slice3B) (by omega : 0 ≤ h) (by omega)
          cases lo with
          | none =>
            cases vlo with
            | some v => exact r1.elim
            | none => simp only [optInt, Option.some.injEq] at hl; subst hl; simp [hbm, hb]
          | some x =>
            cases vlo with
            | none => exact r1.elim
            | some v =>
              obtain ⟨k', rfl⟩ := optInt_some hl r1
              simp [hbm, hb, run_sliceBound (P := P) (w := w) (k := k') (y := h.toNat) c0 (by omega)]

theorem flat_take {sz : Nat} {xs : List PV} (h : ∀ x ∈ xs, x.cells.length = sz) (n : Nat) : flat (xs.take n) = (flat xs).take (n * sz) := by
  induction xs generalizing n with
  | nil => simp [flat]
  | cons a l ih =>
    cases n with
    | zero => simp [flat]
    | succ n =>
      have ha := h a (by simp)
      have := ih (fun x hx => h x (by simp [hx])) n
      simp only [flat, List.take_succ_cons, List.flatMap_cons] at this ⊢
      rw [this, List.take_append, ha, Nat.succ_mul]
      rw [List.take_of_length_le (l := a.cells) (by rw [ha]; omega)]
      congr 2; omega

theorem flat_drop {sz : Nat} {xs : List PV} (h : ∀ x ∈ xs, x.cells.length = sz) (n : Nat) : flat (xs.drop n) = (flat xs).drop (n * sz) := by
  induction xs generalizing n with
  | nil => simp [flat]
  | cons a l ih =>
    cases n with
    | zero => simp [flat]
    | succ n =>
      have ha := h a (by simp)
      have := ih (fun x hx => h x (by simp [hx])) n
      simp only [flat, List.drop_succ_cons, List.flatMap_cons] at this ⊢
      rw [this, List.drop_append, ha, Nat.succ_mul]
      rw [List.drop_eq_nil_of_le (as := a.cells) (by rw [ha]; omega), List.nil_append]
      congr 1; omega

theorem slice_rel {S : Nat → Nat → Prop} {fl fl' : Bool} {sz : Nat} {xs : List PV} {a : Option Addr} {cap l h m : Nat} (hp : RelP w S (.sl fl sz xs) (.slice a xs.length cap)) (c1 : l ≤ h) (c2 : h ≤ m) (c3 : m ≤ cap) (c4 : h ≤ xs.length)
    (hfl : fl' = true → m = h) {P : Program} {e : TypeId} (hsz : P.cellsOf e = sz ∨ xs = []) :
    RelP w S (.sl fl' sz ((xs.take h).drop l)) (.slice (if m = l then a else a.map (·.add (l * P.cellsOf e))) (h - l) (m - l)) := by
  have hlen : ((xs.take h).drop l).length = h - l := by simp; omega
  have hsub : ∀ x ∈ (xs.take h).drop l, x ∈ xs := fun x hx => List.mem_of_mem_take (List.mem_of_mem_drop hx)
  rw [← hlen]
  cases hp with
  | nil =>
    have : l = 0 := by simp at c3 c4; omega
    subst this
    have : m = 0 := by omega
    subst this
    simp
    exact .nil _ _
  | sl fl sz xs g off cap f hflo hcap hszs hrd hc =>
    have hcapm : m - l ≤ maxLen := by omega
    have hfl2 : fl' = true → m - l = ((xs.take h).drop l).length := fun hh => by rw [hlen, hfl hh]
    by_cases hml : m = l
    · rw [if_pos hml]
      have h0 : (xs.take h).drop l = [] := List.eq_nil_of_length_eq_zero (by omega)
      rw [h0]
      rw [h0] at hfl2
      exact .sl fl' sz [] g off _ f hfl2 ⟨by simp, hcapm⟩ (by simp) (by simp) (by simp [flat])
    · rw [if_neg hml]
      simp only [Option.map_some, add_none]
      rcases hsz with hsz | hsz
      · rw [hsz]
        have hsz2 : ∀ x ∈ (xs.take h).drop l, x.cells.length = sz := fun x hx => hszs x (hsub x hx)
        refine .sl fl' sz _ g _ _ (fun k => f (l * sz + k)) hfl2 ⟨by omega, hcapm⟩ hsz2 (fun k hk => ?_) (fun k y hk => ?_)
        · rw [hlen, Nat.sub_mul] at hk
          have h1 : h * sz ≤ xs.length * sz := Nat.mul_le_mul_right _ c4
          have h2 : l * sz ≤ h * sz := Nat.mul_le_mul_right _ c1
          have := hrd (l * sz + k) (by omega)
          rw [← Nat.add_assoc] at this
          exact this
        · rw [flat_drop (fun x hx => hszs x (List.mem_of_mem_take hx)), flat_take hszs, List.getElem?_drop, List.getElem?_take] at hk
          split at hk
          · exact hc _ y hk
          · cases hk
      · subst hsz
        have h0 : (([] : List PV).take h).drop l = [] := by simp
        rw [h0]
        rw [h0] at hfl2
        exact .sl fl' sz [] g _ _ f hfl2 ⟨by simp, hcapm⟩ (by simp) (by simp) (by simp [flat])

theorem ipSlice_rel {sz n i g off cap : Nat} {e : TypeId} {xs : List PV} {x : PV} {l h : Int} (hp : RelP w (Stable σ H) (.sl false sz xs) (.slice (some ⟨g, off, none⟩) xs.length cap)) (hx : xs[i]? = some x) (hcl : x.cells.length = n)
    (c0 : 0 ≤ l) (c1 : l ≤ h) (c2 : h ≤ (n : Int)) (c3 : n ≤ 9223372036854775807) (he : P.cellsOf e = 1) :
    RelP w (Stable σ H) (.sl (decide (h = n)) 1 ((x.cells.take h.toNat).drop l.toNat)) (.slice (if n = l.toNat then some ⟨g, off + i * sz + 0, none⟩ else some (Addr.add ⟨g, off + i * sz + 0, none⟩ (l.toNat * P.cellsOf e))) (h.toNat - l.toNat) (n - l.toNat)) := by
  have hlen : ((x.cells.take h.toNat).drop l.toNat).length = h.toNat - l.toNat := by
    rw [List.length_drop, List.length_take, hcl, Nat.min_eq_left (by omega)]
  have ha : ∀ o, (if n = l.toNat then some (⟨g, off + i * sz + 0, none⟩ : Addr) else some (Addr.add ⟨g, off + i * sz + 0, none⟩ (l.toNat * P.cellsOf e))) = some ⟨g, o, none⟩ → 0 < h.toNat - l.toNat → o = off + i * sz + l.toNat := by
    intro o ho hpos
    rw [if_neg (by omega), he, Nat.mul_one, add_none] at ho
    cases ho; omega
  obtain ⟨o, ho⟩ : ∃ o, (if n = l.toNat then some (⟨g, off + i * sz + 0, none⟩ : Addr) else some (Addr.add ⟨g, off + i * sz + 0, none⟩ (l.toNat * P.cellsOf e))) = some ⟨g, o, none⟩ := by
    split
    · exact ⟨_, rfl⟩
    · exact ⟨_, by rw [add_none]⟩
  have ha := ha o ho
  rw [ho, ← hlen]
  cases hp with | sl _ _ _ _ _ _ f hfl hcap hsz hrd hc =>
  have hxm : x ∈ xs := List.mem_of_getElem? hx
  have hil : i < xs.length := (List.getElem?_eq_some_iff.1 hx).1
  have hszx := hsz x hxm
  have hin : ∀ k, k < n → i * sz + k < xs.length * sz := fun k hk => by
    have : (i + 1) * sz ≤ xs.length * sz := Nat.mul_le_mul_right _ hil
    rw [Nat.add_mul] at this; omega
  have hget : ∀ k y, ((x.cells.take h.toNat).drop l.toNat)[k]? = some y → k < h.toNat - l.toNat ∧ x.cells[l.toNat + k]? = some y := by
    intro k y hy
    have hk := (List.getElem?_eq_some_iff.1 hy).1
    rw [hlen] at hk
    rw [List.getElem?_drop, List.getElem?_take_of_lt (by omega)] at hy
    exact ⟨hk, hy⟩
  have hone : ∀ k y, ((x.cells.take h.toNat).drop l.toNat)[k]? = some y → RelP w (Stable σ H) y (f (i * sz + (l.toNat + k))) ∧ y.cells = [y] := by
    intro k y hy
    obtain ⟨hk, hy⟩ := hget k y hy
    have h1 := hc (i * sz + (l.toNat + k)) y (flat_get hsz hx hy)
    have h2 := (hrd (i * sz + (l.toNat + k)) (hin _ (by omega))).2.2
    refine ⟨h1, ?_⟩
    cases y with
    | agg ys => generalize f (i * sz + (l.toNat + k)) = v at h1 h2; cases h1; cases h2
    | s v => rfl
    | sl a b c => rfl
  refine .sl _ 1 _ g o _ (fun k => f (i * sz + (l.toNat + k))) (fun hf => ?_) ⟨by rw [hlen]; omega, by unfold maxLen; omega⟩ (fun y hy => ?_) (fun k hk => ?_) (fun k y hy => ?_)
  · have := of_decide_eq_true hf; rw [hlen]; omega
  · obtain ⟨k, hk⟩ := List.getElem?_of_mem hy
    rw [(hone k y hk).2]; rfl
  · rw [hlen, Nat.mul_one] at hk
    have := hrd (i * sz + (l.toNat + k)) (hin _ (by omega))
    rw [ha (by omega), show off + i * sz + l.toNat + k = off + (i * sz + (l.toNat + k)) by omega]
    exact this
  · have hfl : flat ((x.cells.take h.toNat).drop l.toNat) = (x.cells.take h.toNat).drop l.toNat := by
      have : ∀ (ys : List PV), (∀ y ∈ ys, y.cells = [y]) → flat ys = ys := by
        intro ys
        induction ys with
        | nil => intro _; rfl
        | cons a ys ih => intro hh; show a.cells ++ flat ys = _; rw [hh a (by simp), ih (fun y hy => hh y (by simp [hy]))]; rfl
      refine this _ fun y hy => ?_
      obtain ⟨k, hk⟩ := List.getElem?_of_mem hy
      exact (hone k y hk).2
    rw [hfl] at hy
    exact (hone k y hy).1

theorem aSlice_run {t : TypeId} {x y : AV} {lo hi mx : Option AV} {vx : Value} {vlo vhi vmx : Option Value} (h : aSlice P t x lo hi mx = some y) (hx : RelV σ H w x vx)
    (r1 : optRel σ H w lo vlo) (r2 : optRel σ H w hi vhi) (r3 : optRel σ H w mx vmx) : ∃ v, (Instr.sliceAt t vx vlo vhi vmx).run P w = .ok v w ∧ RelV σ H w y v := by
  have nomx : ∀ (mx : Option AV), mx = none → ∀ (n : Int), optInt n mx = some n := fun mx h n => by subst h; rfl
  unfold aSlice at h
  split at h
  case h_4 => cases h
  · rename_i e hu
    split at h
    case isFalse => cases h
    rename_i hpos
    have hs : ∀ (w : World), (sizeOf e).run P w = .ok (P.cellsOf e) w := fun w => run_sizeOf_pos hpos
    -- what the machine does with a slice, the limits given
    have core : ∀ (fl : Bool) (sz : Nat) (xs : List PV) (fl' : Bool) (l h m : Int), RelP w (Stable σ H) (.sl fl sz xs) vx → optInt 0 lo = some l → optInt xs.length hi = some h → optInt xs.length mx = some m →
        0 ≤ l → l ≤ h → h ≤ m → m ≤ xs.length → (mx.isSome = true → hi.isSome = true) → (P.cellsOf e = sz ∨ xs.isEmpty = true) → (fl' = true → (mx.isSome = true ∧ h = m) ∨ (mx.isNone = true ∧ fl = true ∧ h = xs.length)) →
        ∃ v, (Instr.sliceAt t vx vlo vhi vmx).run P w = .ok v w ∧ RelP w (Stable σ H) (.sl fl' sz ((xs.take h.toNat).drop l.toNat)) v := by
      intro fl sz xs fl' l h m hp hl hh hm c0 c1 c2 c3 c4 hsz hfl
      obtain ⟨a, cap, rfl, hcl, hfc⟩ : ∃ a cap, vx = .slice a xs.length cap ∧ xs.length ≤ cap ∧ (fl = true → cap = xs.length) := by
        cases hp with
        | nil => exact ⟨none, 0, rfl, Nat.le_refl _, fun _ => rfl⟩
        | sl fl sz xs g off cap f hfl hcap hszs hrd hc => exact ⟨_, _, rfl, hcap.1, hfl⟩
      obtain ⟨m', hm', hmm', hmc, hm3⟩ : ∃ m' : Int, optInt cap mx = some m' ∧ h ≤ m' ∧ m' ≤ cap ∧ (fl' = true → m' = h) := by
        cases mx with
        | none =>
          refine ⟨cap, rfl, by simp only [optInt, Option.some.injEq] at hm; omega, Int.le_refl _, fun hh => ?_⟩
          rcases hfl hh with ⟨h1, _⟩ | ⟨_, h2, h3⟩
          · cases h1
          · rw [hfc h2, h3]
        | some z =>
          refine ⟨m, hm, c2, by omega, fun hh => ?_⟩
          rcases hfl hh with ⟨_, h2⟩ | ⟨h1, _⟩
          · exact h2.symm
          · cases h1
      have hb := run_sliceBounds (P := P) (isSlice := true) (len := xs.length) (cap := cap) hl hh hm' r1 r2 r3 c0 c1 hmm' hmc c4
      refine ⟨.slice (if m'.toNat = l.toNat then a else a.map (·.add (l.toNat * P.cellsOf e))) (h.toNat - l.toNat) (m'.toNat - l.toNat), ?_, slice_rel hp (by omega) (by omega) (by omega) (by omega) (fun hh => by have := hm3 hh; omega) (hsz.imp id (by simp))⟩
      unfold Instr.sliceAt
      simp only [Sem.run_bind, run_underlying hu, Result.andThen_ok, Instr.slice, hb, hs, Sem.run_pure]
    split at h
    case h_4 => cases h
    · rename_i fl sz xs
      split at h
      case h_2 => cases h
      rename_i l hh m hl hhh hm
      split at h
      case isFalse => cases h
      rename_i hc
      obtain ⟨c0, c1, c2, c3, c4, c5⟩ := hc
      cases h
      cases hx with | p hp =>
      obtain ⟨v, h1, h2⟩ := core fl sz xs ((mx.isSome && hh == m) || (mx.isNone && fl && hh == xs.length)) l hh m hp hl hhh hm c0 c1 c2 c3 c4 c5 (fun hf => by
        simp only [Bool.or_eq_true, Bool.and_eq_true, beq_iff_eq] at hf
        rcases hf with ⟨a, b⟩ | ⟨⟨a, b⟩, c⟩
        · exact .inl ⟨a, b⟩
        · exact .inr ⟨a, b, c⟩)
      exact ⟨v, h1, .p h2⟩
    · rename_i α k sz xs
      split at h
      case h_2 => cases h
      rename_i l hh m hl hhh hm
      split at h
      case isFalse => cases h
      rename_i hc
      obtain ⟨c0, c1, c2, c3, c4, c5⟩ := hc
      cases h
      cases hx with | sl hp ht =>
      split
      · rename_i hnone
        simp only [Bool.and_eq_true, Option.isNone_iff_eq_none] at hnone
        obtain ⟨⟨rfl, rfl⟩, rfl⟩ := hnone
        cases vlo with | some v => exact r1.elim | none =>
        cases vhi with | some v => exact r2.elim | none =>
        cases vmx with | some v => exact r3.elim | none =>
        refine ⟨vx, ?_, .sl hp ht⟩
        obtain ⟨a, cap, rfl⟩ : ∃ a cap, vx = .slice a xs.length cap := by
          cases hp with
          | nil => exact ⟨none, 0, rfl⟩
          | sl fl sz xs g off cap f hfl hcap hszs hrd hc => exact ⟨_, _, rfl⟩
        unfold Instr.sliceAt
        simp only [Sem.run_bind, run_underlying hu, Result.andThen_ok, Instr.slice, Instr.sliceBounds, hs, Sem.run_pure, Nat.sub_zero, Nat.zero_mul]
        split
        · rfl
        · cases a with
          | none => rfl
          | some a => simp [Addr.add]
      · obtain ⟨v, h1, h2⟩ := core false sz xs (mx.isSome && hh == m) l hh m hp hl hhh hm c0 c1 c2 c3 c4 c5 (fun hf => by
          simp only [Bool.and_eq_true, beq_iff_eq] at hf
          exact .inl hf)
        exact ⟨v, h1, .p h2⟩
    · rename_i b off len sz
      split at h
      case h_2 => cases h
      rename_i l hh hl hhh
      split at h
      case isFalse => cases h
      rename_i hc
      obtain ⟨c0, c1, c2, rfl⟩ := hc
      cases h
      cases hx with | @ref _ _ _ _ cap a h0 hb hcap ha =>
      have hbn := run_sliceBounds (P := P) (isSlice := true) (len := len) (cap := cap) hl hhh (nomx _ rfl cap) r1 r2 r3 c0 c1 (by omega) (Int.le_refl _) (by simp)
      have hcl : cap - l.toNat ≤ maxLen := by omega
      refine ⟨_, by unfold Instr.sliceAt; simp only [Sem.run_bind, run_underlying hu, Result.andThen_ok, Instr.slice, hbn, hs, Sem.run_pure, Int.toNat_natCast]; rfl, ?_⟩
      by_cases hml : cap = l.toNat
      · simp only [hml, if_true]
        exact .ref a h0 hb ⟨by omega, by omega⟩ (fun h => by omega)
      · simp only [hml, if_false, Option.map_some]
        exact .ref _ (by obtain ⟨g, o, rfl⟩ := h0; exact ⟨_, _, add_none _ _ _⟩) hb ⟨by omega, hcl⟩ (fun h => by rw [ha (by omega), add_none])
  · rename_i n e hu
    split at h
    case h_3 => cases h
    case h_2 =>
      rename_i sz xs i sub
      split at h
      case h_2 => cases h
      rename_i l hh x hl hhh hx0
      split at h
      case isFalse => cases h
      rename_i hc
      obtain ⟨c0, c1, c2, c3, hpos, rfl, hcl⟩ := hc
      cases h
      cases hx with | @ip _ _ _ _ g off cap hp hi hs0 =>
      have hs : ∀ (w : World), (sizeOf e).run P w = .ok (P.cellsOf e) w := fun w => run_sizeOf_pos (by omega)
      have hbn := run_sliceBounds (P := P) (isSlice := false) (len := n) (cap := n) hl hhh (nomx _ rfl n) r1 r2 r3 c0 c1 (by omega) (Int.le_refl _) (by simp)
      refine ⟨_, by unfold Instr.sliceAt; simp only [Sem.run_bind, run_underlying hu, Result.andThen_ok, Instr.sureAddr, Sem.run_pure, hbn, hs, Int.toNat_natCast]; rfl, .p ?_⟩
      have := ipSlice_rel hp hx0 hcl c0 c1 c2 c3 hpos
      rwa [← apply_ite some] at this
    rename_i b off
    split at h
    case h_2 => cases h
    rename_i l hh hl hhh
    split at h
    case isFalse => cases h
    rename_i hc
    obtain ⟨c0, c1, c2, c3, hpos⟩ := hc
    cases h
    cases hx with | ptr hb =>
    have hs : ∀ (w : World), (sizeOf e).run P w = .ok (P.cellsOf e) w := fun w => run_sizeOf_pos hpos
    have hbn := run_sliceBounds (P := P) (isSlice := false) (len := n) (cap := n) hl hhh (nomx _ rfl n) r1 r2 r3 c0 c1 (by omega) (Int.le_refl _) (by simp)
    refine ⟨_, by unfold Instr.sliceAt; simp only [Sem.run_bind, run_underlying hu, Result.andThen_ok, Instr.sureAddr, Sem.run_pure, hbn, hs, Int.toNat_natCast]; rfl, ?_⟩
    by_cases hml : n = l.toNat
    · simp only [hml, if_true]
      exact .ref _ ⟨_, _, rfl⟩ hb ⟨by omega, by unfold maxLen; omega⟩ (fun h => by omega)
    · simp only [hml, if_false]
      exact .ref _ ⟨_, _, add_none _ _ _⟩ hb ⟨by omega, by unfold maxLen; omega⟩ (fun h => by rw [add_none])
  · rename_i hu
    split at h
    case h_2 => cases h
    rename_i s
    split at h
    case h_2 => cases h
    rename_i l hh hl hhh
    split at h
    case isFalse => cases h
    rename_i hc
    obtain ⟨c0, c1, c2⟩ := hc
    cases h
    obtain rfl : vx = .string s := by cases hx with | p hp => cases hp; rfl
    cases vmx with | some v => exact r3.elim | none =>
    have hbn := run_sliceBounds (P := P) (isSlice := false) (len := s.size) (cap := s.size) (vmx := none) (mx := none) hl hhh rfl r1 r2 trivial c0 c1 (by omega) (Int.le_refl _) (by simp)
    refine ⟨.string (s.extract l.toNat hh.toNat), ?_, .p (.s _ rfl)⟩
    unfold Instr.sliceAt
    simp only [Sem.run_bind, run_underlying hu, Result.andThen_ok, Instr.slice, Option.isSome_none, Bool.false_eq_true, if_false, Sem.run_pure, hbn]

end slice

end Go.AL
