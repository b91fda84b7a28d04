/-
  Regions whose order is open, with operations that do not look at the heap.
  Conditions: none; nothing here speaks of one program.
-/
import Derived.Test.YtjnbifkojpfdgaaPkE3
set_option linter.unusedSimpArgs false
set_option linter.unusedVariables false
namespace Go.AL
open Go

/-- Operations that do not look at the heap. -/
def stillOp : Op → Bool
  | .move _ | .assign _ | .nilCheck _ | .binOp .. | .unOp .. | .fieldAddr .. | .build .. => true
  | _ => false

section still
variable {C : Cx} {ops : Array Oper} {q : Nat → Bool} {Q : Env → Hp → Prop}

theorem still_step {P : Program} {G : Globs} {op : Op} {ty : TypeId} {env : Env} {H H' : Hp} (hs : stillOp op = true) :
    (∃ x, stepOp P G op ty env H = .val x H ∧ stepOp P G op ty env H' = .val x H') ∨ stepOp P G op ty env H = .fail := by
  have vh : ∀ y : Option AV, (∃ x, vH y H = .val x H ∧ vH y H' = .val x H') ∨ vH y H = .fail := by
    intro y
    cases y with
    | none => exact .inr rfl
    | some z => exact .inl ⟨z, rfl, rfl⟩
  cases op <;> simp only [stillOp, Bool.false_eq_true] at hs <;> simp only [stepOp]
  all_goals first
    | exact vh _
    | exact .inl ⟨_, rfl, rfl⟩

theorem YieldsA.still {o : Oper} {env : Env} {H H' : Hp} {x : AV} (hs : stillOp o.op = true) (hy : YieldsA C ops o env H x) : YieldsA C ops o env H' x := by
  rcases hy with ⟨h1, h2⟩ | h
  · refine .inl ⟨h1, ?_⟩
    unfold aOp1 at h2 ⊢
    rcases still_step (P := C.P) (G := C.G) (ty := o.type) (env := env) (H := H) (H' := H') hs with ⟨y, e1, e2⟩ | e
    · rw [e1] at h2; rw [e2]
      exact ⟨h2.1, h2.2.1, rfl⟩
    · rw [e] at h2; exact h2.elim
  · exact .inr h

/-- An operation that does not look at the heap, apart from another: neither makes a difference to the other. -/
theorem opA_putS {j : Nat} {oi oj : Oper} {x : AV} {env : Env} {H : Hp} {K : Env → Hp → Prop} (hj : ops[j]? = some oj) (hap : oi.apart ops oj = true) (hs : stillOp oi.op = true) (hy : YieldsA C ops oi env H x) (h : opA C ops false j K (env.put oi.dst x) H) :
    opA C ops false j (fun env' H' => YieldsA C ops oi env' H' x ∧ K (env'.put oi.dst x) H') env H := by
  obtain ⟨h1, h2, h3⟩ := Oper.apart_spec hap
  unfold opA at *
  simp only [hj] at *
  rw [wantedA_put h1] at h
  split
  · rename_i hw
    simp only [hw, Bool.false_eq_true, if_false] at h ⊢
    refine sOp.mono ((aOp1_put h1).1 h) fun y H' hk => ⟨(hy.put h3).still hs, ?_⟩
    rw [← put_comm h2]; exact hk
  · rename_i hw
    simp only [hw] at h
    exact ⟨h.1, hy.put h3, by rw [← put_comm h2]; exact h.2⟩
  · rename_i hw; simp only [hw] at h

theorem anyA_firstS {i : Nat} {oi : Oper} {x : AV} (hi : ops[i]? = some oi) (hqi : q i = true) (Wt : Nat → Prop) (hWt : ∀ j oj, ops[j]? = some oj → Wt j → ∃ e ∈ oj.after, Region.binds .any e = true ∧ (e.on = i ∨ Wt e.on)) : ∀ (fuel : Nat) (listed : Array Bool) (env : Env) (H : Hp),
    (∀ j, Wt j → listed.getD j true = false) →
    (∀ j oj, ops[j]? = some oj → j ≠ i → listed.getD j true = false → ¬Wt j → (q j = true ∨ stillOp oi.op = true) ∧ oi.apart ops oj = true) →
    i ∈ Region.ready .any ops listed → YieldsA C ops oi env H x → anyA C ops q Q fuel (listed.setIfInBounds i true) (env.put oi.dst x) H → anyA C ops q Q (fuel + 1) listed env H := by
  intro fuel
  induction fuel with
  | zero =>
    intro listed env H _ _ hr hy hh
    refine ⟨fun h => (by rw [h] at hr; cases hr), fun j hj => ?_⟩
    by_cases hji : j = i
    · subst hji; rw [hqi]; exact hy.opA hi hh
    · have := ready_mono hj hji
      rw [hh.1] at this
      cases this
  | succ fuel ih =>
    intro listed env H hun0 hfree hr hy hh
    refine ⟨fun h => (by rw [h] at hr; cases hr), fun j hj => ?_⟩
    by_cases hji : j = i
    · subst hji; rw [hqi]; exact hy.opA hi hh
    · have h1 := hh.2 j (ready_mono hj hji)
      obtain ⟨hjun, oj, hoj, hall⟩ := mem_ready.1 hj
      have hnot : ∀ e ∈ oj.after, Region.binds .any e = true → e.on ≠ i := fun e he hb heq => by
        have h1 := hall e he hb
        have h0 := (mem_ready.1 hr).1
        rw [heq] at h1
        rcases Nat.lt_or_ge i listed.size with h' | h'
        · simp [h'] at h0 h1; rw [h0] at h1; cases h1
        · simp [Array.getElem?_eq_none h'] at h1
      have hnw : ¬Wt j := fun hw => by
        obtain ⟨e, he, hb, h | h⟩ := hWt j oj hoj hw
        · exact hnot e he hb h
        · have h1 := hall e he hb
          have h0 := hun0 _ h
          rcases Nat.lt_or_ge e.on listed.size with h' | h'
          · simp [h'] at h0 h1; rw [h0] at h1; cases h1
          · simp [Array.getElem?_eq_none h'] at h1
      obtain ⟨hqj, hap⟩ := hfree j oj hoj hji hjun hnw
      have h2 : opA C ops (q j) j (fun env' H' => YieldsA C ops oi env' H' x ∧ anyA C ops q Q fuel ((listed.setIfInBounds i true).setIfInBounds j true) (env'.put oi.dst x) H') env H := by
        cases hq : q j with
        | true => rw [hq] at h1; exact opA_put hoj hap hy h1
        | false =>
          rw [hq] at h1
          exact opA_putS hoj hap (hqj.resolve_left (by simp [hq])) hy h1
      have hfree' : ∀ k ok, ops[k]? = some ok → k ≠ i → (listed.setIfInBounds j true).getD k true = false →
          ¬Wt k → (q k = true ∨ stillOp oi.op = true) ∧ oi.apart ops ok = true := fun k ok hk hki hun hno => by
        refine hfree k ok hk hki ?_ hno
        by_cases hjk : j = k
        · subst hjk; exact hjun
        · rw [getD_set_ne true hjk] at hun; exact hun
      have hun' : ∀ k, Wt k → (listed.setIfInBounds j true).getD k true = false := fun k hk => by
        by_cases hjk : j = k
        · subst hjk; exact absurd hk hnw
        · rw [getD_set_ne true hjk]; exact hun0 k hk
      refine opA_mono (fun env' H' h3 => ih (listed.setIfInBounds j true) env' H' hun' hfree' (ready_mono hr (Ne.symm hji)) h3.1 ?_) h2
      rw [Array.setIfInBounds_comm _ _ hji]
      exact h3.2

def freeS (q : Nat → Bool) (ops : Array Oper) (listed : Array Bool) (i : Nat) : Bool :=
  match ops[i]? with
  | none => false
  | some oi => (List.range ops.size).all fun j => j == i || listed.getD j true || match ops[j]? with
      | some oj => oj.after.any (fun e => Region.binds .any e && e.on == i) || ((q j || stillOp oi.op) && oi.apart ops oj) || (waitList ops listed i).contains j
      | none => true

theorem freeS_spec {i : Nat} {oi : Oper} {listed : Array Bool} (hi : ops[i]? = some oi) (h : freeS q ops listed i = true) (j : Nat) (oj : Oper)
    (hj : ops[j]? = some oj) (hne : j ≠ i) (hun : listed.getD j true = false) (hno : ¬Waits ops listed i j) : (q j = true ∨ stillOp oi.op = true) ∧ oi.apart ops oj = true := by
  simp only [freeS, hi, List.all_eq_true, List.mem_range] at h
  have h1 := h j (Array.getElem?_eq_some_iff.1 hj).1
  simp only [hj, Bool.or_eq_true, beq_iff_eq, hne, false_or, hun, Bool.false_eq_true, Bool.and_eq_true] at h1
  rcases h1 with (h1 | h1) | h1
  · refine absurd ⟨1, ?_⟩ hno
    obtain ⟨e, he, hb⟩ := Array.any_eq_true'.1 h1
    simp only [Bool.and_eq_true, beq_iff_eq] at hb
    simp only [waitsOn, hun, hj, Bool.not_false, Bool.true_and]
    exact Array.any_eq_true'.2 ⟨e, he, by simp [hb.1, hb.2]⟩
  · exact h1
  · exact absurd (waitList_spec h1) hno

def lexS (q : Nat → Bool) (ops : Array Oper) : Nat → Nat → Array Bool → Bool
  | 0, _, listed => (Region.ready .any ops listed).isEmpty
  | fuel + 1, k, listed => (Region.ready .any ops listed).contains k && (if q k then freeS q ops listed k else Region.ready .any ops listed == [k]) && lexS q ops fuel (k + 1) (listed.setIfInBounds k true)

theorem anyA_lexS : ∀ (l : List Oper) (k : Nat) (listed : Array Bool) (env : Env) (H : Hp), (∀ j, l[j]? = ops[k + j]?) → lexS q ops l.length k listed = true → lexA C ops q Q k l env H → anyA C ops q Q l.length listed env H
  | [], _, _, _, _, _, hB, h => ⟨by simpa [lexS] using hB, h⟩
  | o :: l, k, listed, env, H, hl, hB, h => by
    have h0 : ops[k]? = some o := by simpa using (hl 0).symm
    have hl' : ∀ j, l[j]? = ops[k + 1 + j]? := fun j => by have := hl (j + 1); simpa [Nat.add_assoc, Nat.add_comm 1 j] using this
    simp only [List.length_cons, lexS, Bool.and_eq_true] at hB
    obtain ⟨⟨hr, hf⟩, hB'⟩ := hB
    simp only [lexA] at h
    by_cases hq : q k = true
    · rw [if_pos hq] at hf
      rw [hq] at h
      have : ∃ x, YieldsA C ops o env H x ∧ lexA C ops q Q (k + 1) l (env.put o.dst x) H := by
        unfold opA at h
        simp only [h0] at h
        split at h
        · rename_i hw; simp only [if_true] at h; obtain ⟨x, h1, h2⟩ := h; exact ⟨x, .inl ⟨hw, h1⟩, h2⟩
        · rename_i hw; exact ⟨.tup [], .inr ⟨hw, h.1, rfl⟩, h.2⟩
        · exact h.elim
      obtain ⟨x, hy, hK⟩ := this
      exact anyA_firstS h0 hq (Waits ops listed k) (fun j oj hj hw => hw.edge hj) l.length listed env H (fun j hw => hw.unlisted) (freeS_spec h0 hf) (by simpa using hr) hy (anyA_lexS l (k + 1) _ _ _ hl' hB' hK)
    · rw [if_neg hq] at hf
      have hrd : Region.ready .any ops listed = [k] := by simpa using hf
      refine ⟨fun h0 => (by rw [hrd] at h0; cases h0), fun i hi => ?_⟩
      rw [hrd] at hi
      simp only [List.mem_singleton] at hi
      subst hi
      exact opA_mono (fun env' H' hh => anyA_lexS l (i + 1) _ _ _ hl' hB' hh) h

/-- A region whose order is open, in which operations that do not look at the heap may also come behind those that change it. -/
theorem ARun.openT {id : Nat} {l : List Oper} {k : List Item} {env : Env} {H : Hp} {R : AV → Hp → Prop} (loud : List Nat) (hm : C.P.follows .mixedOrders = true) (hB : lexS (isLoud loud) l.toArray l.length 0 (Array.replicate l.length false) = true)
    (h : runD C l.toArray (isLoud loud) 0 l k env H R) : ARun C (.code (.region id l.toArray true) :: k) env H R :=
  .of_wp fun σ w a m hpre => by
    obtain ⟨g1, g2⟩ := rel_drew hpre.rel
    have := anyA_lexS (C := C) (ops := l.toArray) (Q := fun env' H' => ARun C k env' H' R) l 0 (Array.replicate l.length false) env H (by simp) hB (lexL_of_runD (by simp) h)
    refine wpIn_region_any hm ?_
    rw [List.size_toArray]
    exact anyA_sound (m := m) l.length _ env H σ w.drew a this g1 (hpre.fr.mono g2) (Nat.le_refl _) fun env' H' σ' w' a' b1 b2 b3 b4 => ⟨rfl, env', H', σ', b1, hpre.go b2 b3 (g2.trans b4 (Nat.le_refl _)), g2.trans b4 (Nat.le_refl _)⟩
end still
end Go.AL

/-
  Regions whose order is open, in which two new rows may be made in either order: one run for each.
  Conditions: none; nothing here speaks of one program.
-/
namespace Go.AL
open Go

/-- Operations that read. -/
def readOp0 : Op → Bool
  | .move _ | .assign _ | .nilCheck _ | .binOp .. | .unOp .. | .fieldAddr .. | .build .. | .load .. | .indexAddr .. | .field .. | .index .. => true
  | .call { callee := .builtin .len, .. } => true
  | _ => false

/-- Operations that make a row. -/
def isAlloc : Op → Bool
  | .alloc _ | .makeSlice .. => true
  | _ => false

theorem new_step {P : Program} {G : Globs} {op : Op} {ty : TypeId} {env : Env} {H : Hp} (ha : isAlloc op = true) : stepOp P G op ty env H = .fail ∨ ∃ y x, stepOp P G op ty env H = .val y (H.new x) := by
  have hm : ∀ {t : TypeId} {a b : AV}, vHH (aMake P H t a b) = .fail ∨ ∃ y x, vHH (aMake P H t a b) = .val y (H.new x) := by
    intro t a b
    unfold aMake
    split
    · split
      · split
        · exact .inr ⟨_, _, rfl⟩
        · exact .inl rfl
      · exact .inl rfl
    · exact .inl rfl
  have hm0 : ∀ {t : TypeId} {a b : AV}, vHH (aMake0 P H t a b) = .fail ∨ ∃ y x, vHH (aMake0 P H t a b) = .val y (H.new x) := by
    intro t a b
    unfold aMake0
    split
    · split
      · exact .inr ⟨_, _, rfl⟩
      · exact .inl rfl
    · exact .inl rfl
  cases op <;> simp only [isAlloc, Bool.false_eq_true] at ha <;> simp only [stepOp]
  case alloc t =>
    cases azero P t with
    | none => exact .inl rfl
    | some z => exact .inr ⟨_, _, rfl⟩
  case makeSlice t l c =>
    split
    · exact hm0
    · exact hm

section fork
variable {C : Cx} {ops : Array Oper} {q : Nat → Bool} {Q : Env → Hp → Prop}

theorem read0_step {P : Program} {G : Globs} {op : Op} {ty : TypeId} {env : Env} {H : Hp} (hs : readOp0 op = true) :
    (∃ x, stepOp P G op ty env H = .val x H ∧ ∀ T, stepOp P G op ty env (app H T) = .val x (app H T)) ∨ stepOp P G op ty env H = .fail := by
  have key : (∃ x, stepOp P G op ty env H = .val x H) ∨ stepOp P G op ty env H = .fail := by
    have vh : ∀ y : Option AV, (∃ x, vH y H = .val x H) ∨ vH y H = .fail := by
      intro y
      cases y with
      | none => exact .inr rfl
      | some z => exact .inl ⟨z, rfl⟩
    cases op
    case call c =>
      obtain ⟨callee, args, ts⟩ := c
      cases callee with
      | builtin b =>
        cases b <;> simp only [readOp0, Bool.false_eq_true] at hs
        simp only [stepOp, stepCall, stepBuiltin]
        split <;> first
          | exact vh _
          | exact .inr rfl
          | (exfalso; simp_all; done)
      | _ => simp [readOp0] at hs
    all_goals simp only [readOp0, Bool.false_eq_true] at hs
    all_goals simp only [stepOp]
    all_goals first
      | exact vh _
      | exact .inl ⟨_, rfl⟩
  rcases key with ⟨x, h⟩ | h
  · refine .inl ⟨x, h, fun T => read_app ?_ h⟩
    cases op <;> first
      | rfl
      | (simp only [readOp0, Bool.false_eq_true] at hs; done)
      | skip
    case call c =>
      obtain ⟨callee, args, ts⟩ := c
      cases callee with
      | builtin b => cases b <;> first | rfl | (simp [readOp0] at hs; done)
      | _ => simp [readOp0] at hs
  · exact .inr h

theorem YieldsA.ext {o : Oper} {env : Env} {H : Hp} {T : List AB} {x : AV} (hs : readOp0 o.op = true) (hy : YieldsA C ops o env H x) : YieldsA C ops o env (app H T) x := by
  rcases hy with ⟨h1, h2⟩ | h
  · refine .inl ⟨h1, ?_⟩
    unfold aOp1 at h2 ⊢
    rcases read0_step (P := C.P) (G := C.G) (ty := o.type) (env := env) (H := H) hs with ⟨y, e1, e2⟩ | e
    · rw [e1] at h2; rw [e2 T]
      exact ⟨h2.1, h2.2.1, rfl⟩
    · rw [e] at h2; exact h2.elim
  · exact .inr h

theorem YieldsA.det {o : Oper} {env : Env} {H : Hp} {x y : AV} (hs : readOp0 o.op = true) (hx : YieldsA C ops o env H x) (hy : YieldsA C ops o env H y) : x = y := by
  rcases hx with ⟨h1, h2⟩ | ⟨h1, _, rfl⟩ <;> rcases hy with ⟨h3, h4⟩ | ⟨h3, _, rfl⟩
  · unfold aOp1 at h2 h4
    rcases read0_step (P := C.P) (G := C.G) (ty := o.type) (env := env) (H := H) hs with ⟨z, e1, _⟩ | e
    · rw [e1] at h2 h4
      exact h2.2.1.symm.trans h4.2.1
    · rw [e] at h2; exact h2.elim
  · rw [h1] at h3; cases h3
  · rw [h1] at h3; cases h3
  · rfl

theorem opA_putA {j : Nat} {oi oj : Oper} {x : AV} {env : Env} {H : Hp} {K : Env → Hp → Prop} (hj : ops[j]? = some oj) (hap : oi.apart ops oj = true) (hs : readOp0 oi.op = true) (ha : isAlloc oj.op = true) (hy : YieldsA C ops oi env H x) (h : opA C ops false j K (env.put oi.dst x) H) :
    opA C ops false j (fun env' H' => YieldsA C ops oi env' H' x ∧ K (env'.put oi.dst x) H') env H := by
  obtain ⟨h1, h2, h3⟩ := Oper.apart_spec hap
  unfold opA at *
  simp only [hj] at *
  rw [wantedA_put h1] at h
  split
  · rename_i hw
    simp only [hw, Bool.false_eq_true, if_false] at h ⊢
    have h' := (aOp1_put h1).1 h
    unfold aOp1 at h' ⊢
    rcases new_step (P := C.P) (G := C.G) (ty := oj.type) (env := env) (H := H) ha with e | ⟨y, z, e⟩
    · rw [e] at h'; exact h'.elim
    · rw [e] at h' ⊢
      refine ⟨h'.1, ?_, ?_⟩
      · exact (hy.put h3).ext (T := [z]) hs
      · have := h'.2
        rw [← put_comm h2]; exact this
  · rename_i hw
    simp only [hw] at h
    exact ⟨h.1, hy.put h3, by rw [← put_comm h2]; exact h.2⟩
  · rename_i hw; simp only [hw] at h

def okPair (q : Nat → Bool) (oi oj : Oper) (j : Nat) : Bool := q j || stillOp oi.op || (readOp0 oi.op && isAlloc oj.op)

theorem anyA_firstA {i : Nat} {oi : Oper} {x : AV} (hi : ops[i]? = some oi) (hqi : q i = true) (Wt : Nat → Prop) (hWt : ∀ j oj, ops[j]? = some oj → Wt j → ∃ e ∈ oj.after, Region.binds .any e = true ∧ (e.on = i ∨ Wt e.on)) : ∀ (fuel : Nat) (listed : Array Bool) (env : Env) (H : Hp),
    (∀ j, Wt j → listed.getD j true = false) →
    (∀ j oj, ops[j]? = some oj → j ≠ i → listed.getD j true = false → ¬Wt j → okPair q oi oj j = true ∧ oi.apart ops oj = true) →
    i ∈ Region.ready .any ops listed → YieldsA C ops oi env H x → anyA C ops q Q fuel (listed.setIfInBounds i true) (env.put oi.dst x) H → anyA C ops q Q (fuel + 1) listed env H := by
  intro fuel
  induction fuel with
  | zero =>
    intro listed env H _ _ hr hy hh
    refine ⟨fun h => (by rw [h] at hr; cases hr), fun j hj => ?_⟩
    by_cases hji : j = i
    · subst hji; rw [hqi]; exact hy.opA hi hh
    · have := ready_mono hj hji
      rw [hh.1] at this
      cases this
  | succ fuel ih =>
    intro listed env H hun0 hfree hr hy hh
    refine ⟨fun h => (by rw [h] at hr; cases hr), fun j hj => ?_⟩
    by_cases hji : j = i
    · subst hji; rw [hqi]; exact hy.opA hi hh
    · have h1 := hh.2 j (ready_mono hj hji)
      obtain ⟨hjun, oj, hoj, hall⟩ := mem_ready.1 hj
      have hnot : ∀ e ∈ oj.after, Region.binds .any e = true → e.on ≠ i := fun e he hb heq => by
        have h1 := hall e he hb
        have h0 := (mem_ready.1 hr).1
        rw [heq] at h1
        rcases Nat.lt_or_ge i listed.size with h' | h'
        · simp [h'] at h0 h1; rw [h0] at h1; cases h1
        · simp [Array.getElem?_eq_none h'] at h1
      have hnw : ¬Wt j := fun hw => by
        obtain ⟨e, he, hb, h | h⟩ := hWt j oj hoj hw
        · exact hnot e he hb h
        · have h1 := hall e he hb
          have h0 := hun0 _ h
          rcases Nat.lt_or_ge e.on listed.size with h' | h'
          · simp [h'] at h0 h1; rw [h0] at h1; cases h1
          · simp [Array.getElem?_eq_none h'] at h1
      obtain ⟨hqj, hap⟩ := hfree j oj hoj hji hjun hnw
      have h2 : opA C ops (q j) j (fun env' H' => YieldsA C ops oi env' H' x ∧ anyA C ops q Q fuel ((listed.setIfInBounds i true).setIfInBounds j true) (env'.put oi.dst x) H') env H := by
        cases hq : q j with
        | true => rw [hq] at h1; exact opA_put hoj hap hy h1
        | false =>
          rw [hq] at h1
          simp only [okPair, hq, Bool.false_or, Bool.or_eq_true, Bool.and_eq_true] at hqj
          rcases hqj with hqj | hqj
          · exact opA_putS hoj hap hqj hy h1
          · exact opA_putA hoj hap hqj.1 hqj.2 hy h1
      have hfree' : ∀ k ok, ops[k]? = some ok → k ≠ i → (listed.setIfInBounds j true).getD k true = false →
          ¬Wt k → okPair q oi ok k = true ∧ oi.apart ops ok = true := fun k ok hk hki hun hno => by
        refine hfree k ok hk hki ?_ hno
        by_cases hjk : j = k
        · subst hjk; exact hjun
        · rw [getD_set_ne true hjk] at hun; exact hun
      have hun' : ∀ k, Wt k → (listed.setIfInBounds j true).getD k true = false := fun k hk => by
        by_cases hjk : j = k
        · subst hjk; exact absurd hk hnw
        · rw [getD_set_ne true hjk]; exact hun0 k hk
      refine opA_mono (fun env' H' h3 => ih (listed.setIfInBounds j true) env' H' hun' hfree' (ready_mono hr (Ne.symm hji)) h3.1 ?_) h2
      rw [Array.setIfInBounds_comm _ _ hji]
      exact h3.2

def freeA (q : Nat → Bool) (ops : Array Oper) (listed : Array Bool) (i : Nat) : Bool :=
  match ops[i]? with
  | none => false
  | some oi => (List.range ops.size).all fun j => j == i || listed.getD j true || match ops[j]? with
      | some oj => oj.after.any (fun e => Region.binds .any e && e.on == i) || (okPair q oi oj j && oi.apart ops oj) || (waitList ops listed i).contains j
      | none => true

theorem freeA_spec {i : Nat} {oi : Oper} {listed : Array Bool} (hi : ops[i]? = some oi) (h : freeA q ops listed i = true) (j : Nat) (oj : Oper)
    (hj : ops[j]? = some oj) (hne : j ≠ i) (hun : listed.getD j true = false) (hno : ¬Waits ops listed i j) : okPair q oi oj j = true ∧ oi.apart ops oj = true := by
  simp only [freeA, hi, List.all_eq_true, List.mem_range] at h
  have h1 := h j (Array.getElem?_eq_some_iff.1 hj).1
  simp only [hj, Bool.or_eq_true, beq_iff_eq, hne, false_or, hun, Bool.false_eq_true, Bool.and_eq_true] at h1
  rcases h1 with (h1 | h1) | h1
  · refine absurd ⟨1, ?_⟩ hno
    obtain ⟨e, he, hb⟩ := Array.any_eq_true'.1 h1
    simp only [Bool.and_eq_true, beq_iff_eq] at hb
    simp only [waitsOn, hun, hj, Bool.not_false, Bool.true_and]
    exact Array.any_eq_true'.2 ⟨e, he, by simp [hb.1, hb.2]⟩
  · exact h1
  · exact absurd (waitList_spec h1) hno

def sched2 (q : Nat → Bool) (ops : Array Oper) : List Nat → Array Bool → Bool
  | [], listed => (Region.ready .any ops listed).isEmpty
  | k :: r, listed => decide (k < ops.size) && (Region.ready .any ops listed).contains k && (if q k then freeA q ops listed k else Region.ready .any ops listed == [k]) && sched2 q ops r (listed.setIfInBounds k true)

theorem opA_yields {k : Nat} {o : Oper} {env : Env} {H : Hp} {K : Env → Hp → Prop} (h0 : ops[k]? = some o) (h : opA C ops true k K env H) : ∃ x, YieldsA C ops o env H x ∧ K (env.put o.dst x) H := by
  unfold opA at h
  simp only [h0] at h
  split at h
  · rename_i hw; simp only [if_true] at h; obtain ⟨x, h1, h2⟩ := h; exact ⟨x, .inl ⟨hw, h1⟩, h2⟩
  · rename_i hw; exact ⟨.tup [], .inr ⟨hw, h.1, rfl⟩, h.2⟩
  · exact h.elim

theorem anyA_sch2 : ∀ (r : List Nat) (listed : Array Bool) (env : Env) (H : Hp), sched2 q ops r listed = true → schA C ops q Q r env H → anyA C ops q Q r.length listed env H
  | [], _, _, _, hB, h => ⟨by simpa [sched2] using hB, h⟩
  | k :: r, listed, env, H, hB, h => by
    simp only [sched2, Bool.and_eq_true, decide_eq_true_eq] at hB
    obtain ⟨⟨⟨hk, hr⟩, hf⟩, hB'⟩ := hB
    obtain ⟨o, h0⟩ : ∃ o, ops[k]? = some o := ⟨_, Array.getElem?_eq_getElem hk⟩
    simp only [schA] at h
    by_cases hq : q k = true
    · rw [if_pos hq] at hf
      rw [hq] at h
      obtain ⟨x, hy, hK⟩ := opA_yields h0 h
      exact anyA_firstA h0 hq (Waits ops listed k) (fun j oj hj hw => hw.edge hj) r.length listed env H (fun j hw => hw.unlisted) (freeA_spec h0 hf) (by simpa using hr) hy (anyA_sch2 r _ _ _ hB' hK)
    · rw [if_neg hq] at hf
      have hrd : Region.ready .any ops listed = [k] := by simpa using hf
      refine ⟨fun h0 => (by rw [hrd] at h0; cases h0), fun i hi => ?_⟩
      rw [hrd] at hi
      simp only [List.mem_singleton] at hi
      subst hi
      exact opA_mono (fun env' H' hh => anyA_sch2 r _ _ _ hB' hh) h

/-- First reading operations, then one of two. -/
def forkQ (q : Nat → Bool) (ops : Array Oper) (i j : Nat) (a b : List Nat) : List Nat → Array Bool → Bool
  | [], listed => Region.ready .any ops listed == [i, j] && !q i && !q j && sched2 q ops a (listed.setIfInBounds i true) && sched2 q ops b (listed.setIfInBounds j true)
  | k :: r, listed => (match ops[k]? with | some o => readOp0 o.op | none => false) && (Region.ready .any ops listed).contains k && q k && freeA q ops listed k && forkQ q ops i j a b r (listed.setIfInBounds k true)

theorem anyA_fork {i j : Nat} {a b : List Nat} (hab : a.length = b.length) : ∀ (r : List Nat) (listed : Array Bool) (env : Env) (H : Hp), forkQ q ops i j a b r listed = true → schA C ops q Q (r ++ i :: a) env H → schA C ops q Q (r ++ j :: b) env H → anyA C ops q Q (r.length + (a.length + 1)) listed env H
  | [], listed, env, H, hB, h1, h2 => by
    simp only [forkQ, Bool.and_eq_true, Bool.not_eq_true', beq_iff_eq] at hB
    obtain ⟨⟨⟨⟨hr, hqi⟩, hqj⟩, hA⟩, hBB⟩ := hB
    rw [List.length_nil, Nat.zero_add]
    simp only [List.nil_append, schA] at h1 h2
    refine ⟨fun h0 => (by rw [hr] at h0; cases h0), fun k hk => ?_⟩
    rw [hr] at hk
    simp only [List.mem_cons, List.not_mem_nil, or_false] at hk
    rcases hk with rfl | rfl
    · exact opA_mono (fun env' H' hh => anyA_sch2 a _ _ _ hA hh) h1
    · rw [hab]
      exact opA_mono (fun env' H' hh => anyA_sch2 b _ _ _ hBB hh) h2
  | k :: r, listed, env, H, hB, h1, h2 => by
    simp only [forkQ, Bool.and_eq_true] at hB
    obtain ⟨⟨⟨⟨hro, hr⟩, hq⟩, hf⟩, hB'⟩ := hB
    cases h0 : ops[k]? with
    | none => rw [h0] at hro; cases hro
    | some o =>
      rw [h0] at hro
      simp only [List.cons_append, schA] at h1 h2
      rw [hq] at h1 h2
      obtain ⟨x, hy, hK⟩ := opA_yields h0 h1
      obtain ⟨x', hy', hK'⟩ := opA_yields h0 h2
      obtain rfl := hy.det hro hy'
      rw [show (k :: r).length + (a.length + 1) = (r.length + (a.length + 1)) + 1 by simp; omega]
      exact anyA_firstA h0 hq (Waits ops listed k) (fun j oj hj hw => hw.edge hj) _ listed env H (fun j hw => hw.unlisted) (freeA_spec h0 hf) (by simpa using hr) hy (anyA_fork hab r _ _ _ hB' hK hK')

def placesOK (n : Nat) (loud lp order : List Nat) : Bool := order.length == n && order.all (· < n) && (List.range order.length).all fun m => isLoud lp m == isLoud loud (order.getD m 0)

/-- A region whose order is open; after the reading operations 'pre', the operations i and j may come in either order; 'a' and 'b' are the rest behind each; 'loud', 'la', 'lb': the operations that may change the heap, by their numbers and by their places in the two orders. -/
theorem ARun.openU {id : Nat} {l : List Oper} {k : List Item} {env : Env} {H : Hp} {R : AV → Hp → Prop} (pre : List Nat) (i j : Nat) (a b loud la lb : List Nat) (hm : C.P.follows .mixedOrders = true)
    (hB : forkQ (isLoud loud) l.toArray i j a b pre (Array.replicate l.length false) = true)
    (hlen : (decide (a.length = b.length) && placesOK l.length loud la (pre ++ i :: a) && placesOK l.length loud lb (pre ++ j :: b)) = true)
    (h1 : runD C l.toArray (isLoud la) 0 (pickL l (pre ++ i :: a)) k env H R) (h2 : runD C l.toArray (isLoud lb) 0 (pickL l (pre ++ j :: b)) k env H R) : ARun C (.code (.region id l.toArray true) :: k) env H R :=
  .of_wp fun σ w act m hpre => by
    obtain ⟨g1, g2⟩ := rel_drew hpre.rel
    simp only [Bool.and_eq_true, decide_eq_true_eq] at hlen
    obtain ⟨⟨hab, p1⟩, p2⟩ := hlen
    have conv : ∀ (lp order : List Nat), placesOK l.length loud lp order = true → runD C l.toArray (isLoud lp) 0 (pickL l order) k env H R → schA C l.toArray (isLoud loud) (fun env' H' => ARun C k env' H' R) order env H := by
      intro lp order hp hrun
      simp only [placesOK, Bool.and_eq_true, beq_iff_eq, List.all_eq_true, decide_eq_true_eq] at hp
      obtain ⟨⟨q1, q2⟩, q3⟩ := hp
      exact schA_of_runD (q := isLoud loud) order 0 env H q2 (fun j i hj => by
        have hlt := (List.getElem?_eq_some_iff.1 hj).1
        have := q3 j (List.mem_range.2 hlt)
        rw [List.getD_eq_getElem?_getD, hj] at this
        simpa using this) hrun
    have hl : pre.length + (a.length + 1) = l.length := by
      simp only [placesOK, Bool.and_eq_true, beq_iff_eq] at p1
      have := p1.1.1
      simpa using this
    have := anyA_fork hab pre (Array.replicate l.length false) env H hB (conv _ _ p1 h1) (conv _ _ p2 h2)
    rw [hl] at this
    refine wpIn_region_any hm ?_
    rw [List.size_toArray]
    exact anyA_sound (m := m) l.length _ env H σ w.drew act this g1 (hpre.fr.mono g2) (Nat.le_refl _) fun env' H' σ' w' a' b1 b2 b3 b4 => ⟨rfl, env', H', σ', b1, hpre.go b2 b3 (g2.trans b4 (Nat.le_refl _)), g2.trans b4 (Nat.le_refl _)⟩
end fork
attribute [go_sem] List.cons_append List.nil_append
end Go.AL
