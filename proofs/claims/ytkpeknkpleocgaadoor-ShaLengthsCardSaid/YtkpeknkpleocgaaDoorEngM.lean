/-
  A region whose order is open: one run in the text's order serves every order, if each operation that changes the heap is alone when its turn comes.
  Conditions: none; nothing here speaks of one program.
-/
import Derived.Test.YtkpeknkpleocgaaDoorEngL
import Derived.OrdersIn
set_option linter.unusedSimpArgs false
set_option linter.unusedVariables false
namespace Go.AL
open Go

/-- The slots that an operation looks at. -/
def opTmps (xs : List Operand) : List Nat := xs.filterMap fun | .tmp t => some t | _ => none

section congr
variable {P : Program} {G : Globs} {env env' : Env} {H : Hp}

theorem aev_congr {x : Operand} (h : ∀ t, x = .tmp t → env t = env' t) : aev G env x = aev G env' x := by
  cases x with
  | tmp t => exact h t rfl
  | _ => rfl

theorem aevT_congr {ty : TypeId} {x : Operand} (h : ∀ t, x = .tmp t → env t = env' t) : aevT P G env ty x = aevT P G env' ty x := by
  cases x with
  | tmp t => exact h t rfl
  | _ => rfl

theorem aargs_congr : ∀ (xs : List Operand) (ts : List TypeId), (∀ x ∈ xs, ∀ t, x = .tmp t → env t = env' t) → aargs P G env xs ts = aargs P G env' xs ts
  | [], _, _ => rfl
  | x :: xs, [], h => by simp only [aargs]; rw [aev_congr (h x (by simp)), aargs_congr xs [] (fun y hy => h y (by simp [hy]))]
  | x :: xs, t :: ts, h => by simp only [aargs]; rw [aevT_congr (h x (by simp)), aargs_congr xs ts (fun y hy => h y (by simp [hy]))]

theorem aparts_congr : ∀ (ps : List (Nat × Operand)), (∀ x ∈ ps.map (·.2), ∀ t, x = .tmp t → env t = env' t) → aparts G env ps = aparts G env' ps
  | [], _ => rfl
  | (i, x) :: ps, h => by simp only [aparts]; rw [aev_congr (h x (by simp)), aparts_congr ps (fun y hy => h y (by simp at hy ⊢; exact .inr hy))]

theorem alist_congr : ∀ (xs : List Operand), (∀ x ∈ xs, ∀ t, x = .tmp t → env t = env' t) → alist G env xs = alist G env' xs
  | [], _ => rfl
  | x :: xs, h => by simp only [alist]; rw [aev_congr (h x (by simp)), alist_congr xs (fun y hy => h y (by simp [hy]))]

theorem stepBuiltin_congr {b : Builtin} {args : List Operand} {ts : List TypeId} (h : ∀ x ∈ args, ∀ t, x = .tmp t → env t = env' t) : stepBuiltin P G env H b args ts = stepBuiltin P G env' H b args ts := by
  unfold stepBuiltin
  split
  · rw [aev_congr (h _ (by simp))]
  · rename_i s x t u; rw [aevT_congr (h s (by simp)), aevT_congr (h x (by simp))]
  · rename_i d s t u; rw [aev_congr (h d (by simp)), aev_congr (h s (by simp))]
  · rename_i x y; rw [aev_congr (h x (by simp)), aev_congr (h y (by simp))]
  · rename_i x y; rw [aev_congr (h x (by simp)), aev_congr (h y (by simp))]
  · rfl

theorem stepOp_congr {op : Op} {ty : TypeId} (h : ∀ x ∈ op.operands, ∀ t, x = .tmp t → env t = env' t) : stepOp P G op ty env H = stepOp P G op ty env' H := by
  cases op <;> simp only [stepOp, Op.operands] at * <;> try rfl
  case move x => rw [aevT_congr (h x (by simp))]
  case assign x => rw [aevT_congr (h x (by simp))]
  case box t x => rw [aev_congr (h x (by simp))]
  case build t parts => rw [aparts_congr _ (fun x hx => h x (by simpa using hx))]
  case buildSlice t n parts => rw [aparts_congr _ (fun x hx => h x (by simpa using hx))]
  case load t x => rw [aev_congr (h x (by simp))]
  case store t x y => rw [aev_congr (h x (by simp)), aevT_congr (h y (by simp))]
  case nilCheck x => rw [aev_congr (h x (by simp))]
  case binOp op t x y t' => rw [aev_congr (h x (by simp)), aev_congr (h y (by simp))]
  case unOp op t x => rw [aev_congr (h x (by simp))]
  case convert s d x => rw [aev_congr (h x (by simp))]
  case makeInterface t x => rw [aev_congr (h x (by simp))]
  case makeFunc fn first captured =>
    split
    · rw [alist_congr _ (fun x hx => h x (by simp at hx ⊢; exact .inl hx)), alist_congr _ (fun x hx => h x (by simp at hx ⊢; exact .inr hx))]
    · rfl
  case makeSlice t l c =>
    split
    · rw [aev_congr (h c (by simp)), aev_congr (h _ (by simp))]
    · rw [aev_congr (h c (by simp)), aev_congr (h l (by simp))]
  case slice t x lo hi mx =>
    have e1 : aev G env x = aev G env' x := aev_congr (h x (by simp))
    have e2 : lo.map (aev G env) = lo.map (aev G env') := by
      cases lo with | none => rfl | some y => simp only [Option.map_some]; rw [aev_congr (h y (by simp))]
    have e3 : hi.map (aev G env) = hi.map (aev G env') := by
      cases hi with | none => rfl | some y => simp only [Option.map_some]; rw [aev_congr (h y (by simp))]
    have e4 : mx.map (aev G env) = mx.map (aev G env') := by
      cases mx with | none => rfl | some y => simp only [Option.map_some]; rw [aev_congr (h y (by simp))]
    rw [e1, e2, e3, e4]
  case fieldAddr s x f => rw [aev_congr (h x (by simp))]
  case field s x f => rw [aev_congr (h x (by simp))]
  case indexAddr t x i => rw [aev_congr (h x (by simp)), aev_congr (h i (by simp))]
  case index t x i => rw [aev_congr (h x (by simp)), aev_congr (h i (by simp))]
  case extract x i => rw [aev_congr (h x (by simp))]
  case pick c x y => rw [aev_congr (h c (by simp)), aevT_congr (h x (by simp)), aevT_congr (h y (by simp))]
  case call c =>
    obtain ⟨callee, args, ts⟩ := c
    cases callee with
    | value f =>
      simp only [Call.operands] at h
      simp only [stepCall]
      rw [aev_congr (h f (by simp)), aargs_congr _ _ (fun x hx => h x (by simp at hx ⊢; exact .inr hx))]
    | builtin b =>
      simp only [Call.operands] at h
      exact stepBuiltin_congr (fun x hx => h x (by simpa using hx))
    | invoke r m => rfl
end congr

/-- May this operation change the heap? -/
def loudOp (o : Oper) : Bool :=
  match o.op with
  | .store .. | .alloc _ | .box .. | .makeSlice .. => true
  | .call { callee := .builtin .append, .. } | .call { callee := .builtin .copy, .. } => true
  | _ => false

section any
variable {C : Cx} {ops : Array Oper} {q : Nat → Bool} {Q : Env → Hp → Prop}

/-- Operation i comes up. -/
def opA (C : Cx) (ops : Array Oper) (quiet : Bool) (i : Nat) (K : Env → Hp → Prop) (env : Env) (H : Hp) : Prop :=
  match ops[i]? with
  | none => K env H
  | some o =>
    match wantedA C.nt ops o.guard env with
    | some true => if quiet then ∃ x, aOp1 C o env H (fun x' H' => x' = x ∧ H' = H) ∧ K (env.put o.dst x) H else aOp1 C o env H (fun x H' => K (env.put o.dst x) H')
    | some false => dstOK C.nt o.dst = true ∧ K (env.put o.dst (.tup [])) H
    | none => False

def anyA (C : Cx) (ops : Array Oper) (q : Nat → Bool) (Q : Env → Hp → Prop) : Nat → Array Bool → Env → Hp → Prop
  | 0, listed, env, H => Region.ready .any ops listed = [] ∧ Q env H
  | fuel + 1, listed, env, H => (Region.ready .any ops listed = [] → Q env H) ∧
    ∀ i ∈ Region.ready .any ops listed, opA C ops (q i) i (anyA C ops q Q fuel (listed.setIfInBounds i true)) env H

theorem opA_mono {quiet : Bool} {i : Nat} {K K' : Env → Hp → Prop} {env : Env} {H : Hp} (hk : ∀ env H, K env H → K' env H) (h : opA C ops quiet i K env H) : opA C ops quiet i K' env H := by
  unfold opA at *
  split
  · rename_i ho; simp only [ho] at h; exact hk _ _ h
  · rename_i o ho
    simp only [ho] at h
    split
    · rename_i hw
      simp only [hw] at h
      split
      · rename_i hq; rw [if_pos hq] at h; obtain ⟨x, h1, h2⟩ := h; exact ⟨x, h1, hk _ _ h2⟩
      · rename_i hq; rw [if_neg hq] at h; exact sOp.mono h fun x H' hh => hk _ _ hh
    · rename_i hw; simp only [hw] at h; exact ⟨h.1, hk _ _ h.2⟩
    · rename_i hw; simp only [hw] at h

/-- The abstract run over all orders is one of the machine's. -/
theorem anyA_sound {n1 m : Nat} {ro : Option Nat} {R1 : Exit → Act → World → Prop} : ∀ (fuel : Nat) (listed : Array Bool) (env : Env) (H : Hp) (σ : Gh) (w : World) (a : Act), anyA C ops q Q fuel listed env H → Rel C.G σ H w → RelF C.nt m σ H w env a → n1 ≤ H.n →
    (∀ env' H' σ' w' a', Q env' H' → Rel C.G σ' H' w' → RelF C.nt m σ' H' w' env' a' → Ev n1 σ H w σ' H' w' → R1 .normal a' w') → wpAnyIn { Fence.wide with round := ro } 0 C.P .any ops R1 fuel listed a w
  | 0, listed, env, H, σ, w, a, h, hr, hf, hn, hR => ⟨h.1, hR env H σ w a h.2 hr hf (Ev.refl hn)⟩
  | fuel + 1, listed, env, H, σ, w, a, h, hr, hf, hn, hR => by
    refine ⟨fun h0 => hR env H σ w a (h.1 h0) hr hf (Ev.refl hn), fun i hi => ?_⟩
    have hi' := h.2 i hi
    unfold opA at hi'
    unfold wpOpIn
    split at hi'
    · rename_i ho
      simp only [ho]
      exact anyA_sound fuel _ env H σ w a hi' hr hf hn hR
    · rename_i o ho
      simp only [ho]
      split at hi'
      · rename_i hw
        rw [if_pos (wantedA_spec hw hf rfl)]
        have h1 : aOp1 C o env H (fun x H' => anyA C ops q Q fuel (listed.setIfInBounds i true) (env.put o.dst x) H') := by
          split at hi'
          · obtain ⟨x, h1, h2⟩ := hi'
            exact sOp.mono h1 fun x' H' hh => by rw [hh.1, hh.2]; exact h2
          · exact hi'
        refine h1.wp hr hf fun x v H' σ' w' hk hd hrel hv hev => ?_
        exact anyA_sound fuel _ _ H' σ' w' _ hk hrel ((hf.mono hev).put hd hv) (Nat.le_trans hn hev.hn) fun env' H2 σ2 w2 a2 b1 b2 b3 b4 => hR env' H2 σ2 w2 a2 b1 b2 b3 (hev.trans b4 hn)
      · rename_i hw
        rw [if_neg (by rw [wantedA_spec hw hf rfl]; simp)]
        exact ⟨fun f _ => trivial, anyA_sound fuel _ _ H σ w _ hi'.2 hr (hf.put (dstOK_spec hi'.1) (.tup #[] rfl (by simp))) hn hR⟩
      · exact hi'.elim

/-- In this state, operation o leaves x in its slot, and the heap as it was. -/
def YieldsA (C : Cx) (ops : Array Oper) (o : Oper) (env : Env) (H : Hp) (x : AV) : Prop :=
  (wantedA C.nt ops o.guard env = some true ∧ aOp1 C o env H (fun x' H' => x' = x ∧ H' = H)) ∨ (wantedA C.nt ops o.guard env = some false ∧ dstOK C.nt o.dst = true ∧ x = .tup [])

theorem YieldsA.opA {i : Nat} {o : Oper} {x : AV} {env : Env} {H : Hp} {K : Env → Hp → Prop} (hi : ops[i]? = some o) (hy : YieldsA C ops o env H x) (h : K (env.put o.dst x) H) : opA C ops true i K env H := by
  unfold Go.AL.opA
  simp only [hi]
  rcases hy with ⟨hw, h1⟩ | ⟨hw, h1, rfl⟩
  · simp only [hw, if_true]; exact ⟨x, h1, h⟩
  · simp only [hw]; exact ⟨h1, h⟩

theorem put_ne {env : Env} {d : Option Nat} {x : AV} {t : Nat} (h : ∀ i, d = some i → i ≠ t) : env.put d x t = env t := by
  cases d with
  | none => rfl
  | some i => simp only [Env.put]; rw [if_neg (Ne.symm (h i rfl))]

theorem put_comm {env : Env} {d e : Option Nat} {x y : AV} (h : ∀ i, d = some i → e ≠ some i) : (env.put d x).put e y = (env.put e y).put d x := by
  cases d with
  | none => rfl
  | some i =>
    cases e with
    | none => rfl
    | some j =>
      have : i ≠ j := fun hh => h i rfl (by rw [hh])
      funext t
      simp only [Env.put]
      by_cases h1 : t = j
      · rw [if_pos h1, if_neg (by omega), if_pos h1]
      · rw [if_neg h1]; by_cases h2 : t = i
        · rw [if_pos h2, if_pos h2]
        · rw [if_neg h2, if_neg h2, if_neg h1]

theorem wantedA_put {o : Oper} {env : Env} {d : Option Nat} {x : AV} (h : ∀ i, d = some i → i ∉ o.looksAt ops) : wantedA C.nt ops o.guard (env.put d x) = wantedA C.nt ops o.guard env := by
  unfold wantedA
  split
  · rfl
  · rename_i j want hg
    cases hd : (ops[j]?).bind (·.dst) with
    | none => rfl
    | some t =>
      have : env.put d x t = env t := put_ne fun i hi heq => h i hi (by subst heq; simp [Oper.looksAt, hg, hd])
      simp only [this]

theorem aOp1_put {o : Oper} {env : Env} {H : Hp} {d : Option Nat} {x : AV} {K : AV → Hp → Prop} (h : ∀ i, d = some i → i ∉ o.looksAt ops) : aOp1 C o (env.put d x) H K ↔ aOp1 C o env H K := by
  unfold aOp1
  rw [stepOp_congr (env' := env) fun y hy t ht => put_ne fun i hi heq => h i hi (by
    subst heq; subst ht
    exact List.mem_append_left _ (List.mem_filterMap.2 ⟨.tmp i, by simpa using hy, rfl⟩))]

theorem YieldsA.put {o : Oper} {env : Env} {H : Hp} {x y : AV} {d : Option Nat} (h : ∀ i, d = some i → i ∉ o.looksAt ops) (hy : YieldsA C ops o env H x) : YieldsA C ops o (env.put d y) H x := by
  unfold YieldsA at *
  rw [wantedA_put h]
  rcases hy with ⟨h1, h2⟩ | h1
  · exact .inl ⟨h1, (aOp1_put h).2 h2⟩
  · exact .inr h1

/-- A quiet operation apart from another: neither makes a difference to the other. -/
theorem opA_put {j : Nat} {oi oj : Oper} {x : AV} {env : Env} {H : Hp} {K : Env → Hp → Prop} (hj : ops[j]? = some oj) (hap : oi.apart ops oj = true) (hy : YieldsA C ops oi env H x) (h : opA C ops true j K (env.put oi.dst x) H) :
    opA C ops true j (fun env' H' => YieldsA C ops oi env' H' x ∧ K (env'.put oi.dst x) H') env H := by
  obtain ⟨h1, h2, h3⟩ := Oper.apart_spec hap
  unfold opA at *
  simp only [hj] at *
  rw [wantedA_put h1] at h
  split
  · rename_i hw
    simp only [hw, if_true] at h ⊢
    obtain ⟨y, q1, q2⟩ := h
    exact ⟨y, (aOp1_put h1).1 q1, hy.put h3, by rw [← put_comm h2]; exact q2⟩
  · rename_i hw
    simp only [hw] at h
    exact ⟨h.1, hy.put h3, by rw [← put_comm h2]; exact h.2⟩
  · rename_i hw; simp only [hw] at h

theorem anyA_first {i : Nat} {oi : Oper} {x : AV} (hi : ops[i]? = some oi) (hqi : q i = true) (Wt : Nat → Prop) (hWt : ∀ j oj, ops[j]? = some oj → Wt j → ∃ e ∈ oj.after, Region.binds .any e = true ∧ (e.on = i ∨ Wt e.on)) : ∀ (fuel : Nat) (listed : Array Bool) (env : Env) (H : Hp),
    (∀ j, Wt j → listed.getD j true = false) →
    (∀ j oj, ops[j]? = some oj → j ≠ i → listed.getD j true = false → ¬Wt j → q j = true ∧ oi.apart ops oj = true) →
    i ∈ Region.ready .any ops listed → YieldsA C ops oi env H x → anyA C ops q Q fuel (listed.setIfInBounds i true) (env.put oi.dst x) H → anyA C ops q Q (fuel + 1) listed env H := by
  intro fuel
  induction fuel with
  | zero =>
    intro listed env H _ _ hr hy hh
    refine ⟨fun h => (by rw [h] at hr; cases hr), fun j hj => ?_⟩
    by_cases hji : j = i
    · subst hji; rw [hqi]; exact hy.opA hi hh
    · have := ready_mono hj hji
      rw [hh.1] at this
      cases this
  | succ fuel ih =>
    intro listed env H hun0 hfree hr hy hh
    refine ⟨fun h => (by rw [h] at hr; cases hr), fun j hj => ?_⟩
    by_cases hji : j = i
    · subst hji; rw [hqi]; exact hy.opA hi hh
    · have h1 := hh.2 j (ready_mono hj hji)
      obtain ⟨hjun, oj, hoj, hall⟩ := mem_ready.1 hj
      have hnot : ∀ e ∈ oj.after, Region.binds .any e = true → e.on ≠ i := fun e he hb heq => by
        have h1 := hall e he hb
        have h0 := (mem_ready.1 hr).1
        rw [heq] at h1
        rcases Nat.lt_or_ge i listed.size with h' | h'
        · simp [h'] at h0 h1; rw [h0] at h1; cases h1
        · simp [Array.getElem?_eq_none h'] at h1
      have hnw : ¬Wt j := fun hw => by
        obtain ⟨e, he, hb, h | h⟩ := hWt j oj hoj hw
        · exact hnot e he hb h
        · have h1 := hall e he hb
          have h0 := hun0 _ h
          rcases Nat.lt_or_ge e.on listed.size with h' | h'
          · simp [h'] at h0 h1; rw [h0] at h1; cases h1
          · simp [Array.getElem?_eq_none h'] at h1
      obtain ⟨hqj, hap⟩ := hfree j oj hoj hji hjun hnw
      rw [hqj] at h1 ⊢
      have h2 := opA_put hoj hap hy h1
      have hfree' : ∀ k ok, ops[k]? = some ok → k ≠ i → (listed.setIfInBounds j true).getD k true = false →
          ¬Wt k → q k = true ∧ oi.apart ops ok = true := fun k ok hk hki hun hno => by
        refine hfree k ok hk hki ?_ hno
        by_cases hjk : j = k
        · subst hjk; exact hjun
        · rw [getD_set_ne true hjk] at hun; exact hun
      have hun' : ∀ k, Wt k → (listed.setIfInBounds j true).getD k true = false := fun k hk => by
        by_cases hjk : j = k
        · subst hjk; exact absurd hk hnw
        · rw [getD_set_ne true hjk]; exact hun0 k hk
      refine opA_mono (fun env' H' h3 => ih (listed.setIfInBounds j true) env' H' hun' hfree' (ready_mono hr (Ne.symm hji)) h3.1 ?_) h2
      rw [Array.setIfInBounds_comm _ _ hji]
      exact h3.2

/-- The Bool over a region: in the text's order each operation may come up, and either it is quiet and all that do not wait for it are quiet and apart from it, or it is alone. -/
def waitsOn (ops : Array Oper) (listed : Array Bool) (i : Nat) : Nat → Nat → Bool
  | 0, _ => false
  | f + 1, j => !listed.getD j true && match ops[j]? with
      | some oj => oj.after.any fun e => Region.binds .any e && (e.on == i || waitsOn ops listed i f e.on)
      | none => false

/-- The operations that wait for i, found along the text. -/
def waitList (ops : Array Oper) (listed : Array Bool) (i : Nat) : List Nat :=
  (List.range ops.size).foldl (fun acc j => if !listed.getD j true && (match ops[j]? with
      | some oj => oj.after.any fun e => Region.binds .any e && (e.on == i || acc.contains e.on)
      | none => false) then j :: acc else acc) []

theorem waitList_spec {ops : Array Oper} {listed : Array Bool} {i j : Nat} (h : (waitList ops listed i).contains j = true) : ∃ f, waitsOn ops listed i f j = true := by
  have mono : ∀ f j, waitsOn ops listed i f j = true → waitsOn ops listed i (f + 1) j = true := by
    intro f
    induction f with
    | zero => intro j h; cases h
    | succ f ih =>
      intro j h
      unfold waitsOn at h ⊢
      simp only [Bool.and_eq_true] at h ⊢
      refine ⟨h.1, ?_⟩
      have h2 := h.2
      split at h2
      · obtain ⟨e, he, hb⟩ := Array.any_eq_true'.1 h2
        simp only [Bool.and_eq_true, Bool.or_eq_true] at hb
        exact Array.any_eq_true'.2 ⟨e, he, by simp only [Bool.and_eq_true, Bool.or_eq_true]; exact ⟨hb.1, hb.2.imp id (ih _)⟩⟩
      · cases h2
  have key : ∀ (l : List Nat) (acc : List Nat), (∀ j ∈ acc, ∃ f, waitsOn ops listed i f j = true) → ∀ j ∈ l.foldl (fun acc j => if !listed.getD j true && (match ops[j]? with
      | some oj => oj.after.any fun e => Region.binds .any e && (e.on == i || acc.contains e.on)
      | none => false) then j :: acc else acc) acc, ∃ f, waitsOn ops listed i f j = true := by
    intro l
    induction l with
    | nil => exact fun acc h => h
    | cons a l ih =>
      intro acc hacc
      rw [List.foldl_cons]
      refine ih _ ?_
      by_cases hc : (!listed.getD a true && (match ops[a]? with
          | some oj => oj.after.any fun e => Region.binds .any e && (e.on == i || acc.contains e.on)
          | none => false)) = true
      · rw [if_pos hc]
        intro j hj
        rcases List.mem_cons.1 hj with rfl | hj
        · simp only [Bool.and_eq_true] at hc
          obtain ⟨h1, h2⟩ := hc
          split at h2
          · rename_i oj hoj
            obtain ⟨e, he, hb⟩ := Array.any_eq_true'.1 h2
            simp only [Bool.and_eq_true, Bool.or_eq_true] at hb
            rcases hb.2 with h3 | h3
            · refine ⟨1, ?_⟩
              unfold waitsOn
              simp only [Bool.and_eq_true]
              refine ⟨h1, ?_⟩
              simp only [hoj]
              exact Array.any_eq_true'.2 ⟨e, he, by simp only [Bool.and_eq_true, Bool.or_eq_true]; exact ⟨hb.1, .inl h3⟩⟩
            · obtain ⟨f, hf⟩ := hacc e.on (by simpa using h3)
              refine ⟨f + 1, ?_⟩
              unfold waitsOn
              simp only [Bool.and_eq_true]
              refine ⟨h1, ?_⟩
              simp only [hoj]
              exact Array.any_eq_true'.2 ⟨e, he, by simp only [Bool.and_eq_true, Bool.or_eq_true]; exact ⟨hb.1, .inr hf⟩⟩
          · cases h2
        · exact hacc j hj
      · rw [if_neg hc]
        exact hacc
  exact key _ [] (by simp) j (by simpa [waitList] using h)

def freeQ (q : Nat → Bool) (ops : Array Oper) (listed : Array Bool) (i : Nat) : Bool :=
  match ops[i]? with
  | none => false
  | some oi => (List.range ops.size).all fun j => j == i || listed.getD j true || match ops[j]? with
      | some oj => oj.after.any (fun e => Region.binds .any e && e.on == i) || (q j && oi.apart ops oj) || (waitList ops listed i).contains j
      | none => true

def Waits (ops : Array Oper) (listed : Array Bool) (i j : Nat) : Prop := ∃ f, waitsOn ops listed i f j = true

theorem Waits.edge {i j : Nat} {oj : Oper} {listed : Array Bool} (hj : ops[j]? = some oj) (h : Waits ops listed i j) : ∃ e ∈ oj.after, Region.binds .any e = true ∧ (e.on = i ∨ Waits ops listed i e.on) := by
  obtain ⟨f, h⟩ := h
  cases f with
  | zero => cases h
  | succ f =>
    simp only [waitsOn, hj, Bool.and_eq_true] at h
    obtain ⟨e, he, hb⟩ := Array.any_eq_true'.1 h.2
    simp only [Bool.and_eq_true, Bool.or_eq_true, beq_iff_eq] at hb
    exact ⟨e, he, hb.1, hb.2.imp id fun h => ⟨f, h⟩⟩

theorem Waits.unlisted {i j : Nat} {listed : Array Bool} (h : Waits ops listed i j) : listed.getD j true = false := by
  obtain ⟨f, h⟩ := h
  cases f with
  | zero => cases h
  | succ f => simp only [waitsOn, Bool.and_eq_true, Bool.not_eq_true'] at h; exact h.1

theorem freeQ_spec {i : Nat} {oi : Oper} {listed : Array Bool} (hi : ops[i]? = some oi) (h : freeQ q ops listed i = true) (j : Nat) (oj : Oper)
    (hj : ops[j]? = some oj) (hne : j ≠ i) (hun : listed.getD j true = false) (hno : ¬Waits ops listed i j) : q j = true ∧ oi.apart ops oj = true := by
  simp only [freeQ, hi, List.all_eq_true, List.mem_range] at h
  have h1 := h j (Array.getElem?_eq_some_iff.1 hj).1
  simp only [hj, Bool.or_eq_true, beq_iff_eq, hne, false_or, hun, Bool.false_eq_true, Bool.and_eq_true] at h1
  rcases h1 with (h1 | h1) | h1
  · refine absurd ⟨1, ?_⟩ hno
    obtain ⟨e, he, hb⟩ := Array.any_eq_true'.1 h1
    simp only [Bool.and_eq_true, beq_iff_eq] at hb
    simp only [waitsOn, hun, hj, Bool.not_false, Bool.true_and]
    exact Array.any_eq_true'.2 ⟨e, he, by simp [hb.1, hb.2]⟩
  · exact h1
  · exact absurd (waitList_spec h1) hno

def lexQ (q : Nat → Bool) (ops : Array Oper) : Nat → Nat → Array Bool → Bool
  | 0, _, listed => (Region.ready .any ops listed).isEmpty
  | fuel + 1, k, listed => (Region.ready .any ops listed).contains k && (if q k then freeQ q ops listed k else Region.ready .any ops listed == [k]) && lexQ q ops fuel (k + 1) (listed.setIfInBounds k true)

/-- The run in the text's order. -/
def lexA (C : Cx) (ops : Array Oper) (q : Nat → Bool) (Q : Env → Hp → Prop) : Nat → List Oper → Env → Hp → Prop
  | _, [], env, H => Q env H
  | k, _ :: l, env, H => opA C ops (q k) k (lexA C ops q Q (k + 1) l) env H

theorem anyA_lex : ∀ (l : List Oper) (k : Nat) (listed : Array Bool) (env : Env) (H : Hp), (∀ j, l[j]? = ops[k + j]?) → lexQ q ops l.length k listed = true → lexA C ops q Q k l env H → anyA C ops q Q l.length listed env H
  | [], _, _, _, _, _, hB, h => ⟨by simpa [lexQ] using hB, h⟩
  | o :: l, k, listed, env, H, hl, hB, h => by
    have h0 : ops[k]? = some o := by simpa using (hl 0).symm
    have hl' : ∀ j, l[j]? = ops[k + 1 + j]? := fun j => by have := hl (j + 1); simpa [Nat.add_assoc, Nat.add_comm 1 j] using this
    simp only [List.length_cons, lexQ, Bool.and_eq_true] at hB
    obtain ⟨⟨hr, hf⟩, hB'⟩ := hB
    simp only [lexA] at h
    by_cases hq : q k = true
    · rw [if_pos hq] at hf
      rw [hq] at h
      have : ∃ x, YieldsA C ops o env H x ∧ lexA C ops q Q (k + 1) l (env.put o.dst x) H := by
        unfold opA at h
        simp only [h0] at h
        split at h
        · rename_i hw; simp only [if_true] at h; obtain ⟨x, h1, h2⟩ := h; exact ⟨x, .inl ⟨hw, h1⟩, h2⟩
        · rename_i hw; exact ⟨.tup [], .inr ⟨hw, h.1, rfl⟩, h.2⟩
        · exact h.elim
      obtain ⟨x, hy, hK⟩ := this
      exact anyA_first h0 hq (Waits ops listed k) (fun j oj hj hw => hw.edge hj) l.length listed env H (fun j hw => hw.unlisted) (freeQ_spec h0 hf) (by simpa using hr) hy (anyA_lex l (k + 1) _ _ _ hl' hB' hK)
    · rw [if_neg hq] at hf
      have hrd : Region.ready .any ops listed = [k] := by simpa using hf
      refine ⟨fun h0 => (by rw [hrd] at h0; cases h0), fun i hi => ?_⟩
      rw [hrd] at hi
      simp only [List.mem_singleton] at hi
      subst hi
      exact opA_mono (fun env' H' hh => anyA_lex l (i + 1) _ _ _ hl' hB' hh) h
end any

section draw
variable {C : Cx} {k : List Item} {env : Env} {H : Hp} {R : AV → Hp → Prop}

/-- A call in a region whose order is open: the heap stays. -/
def CallQ (C : Cx) (f : FuncId) (args : List AV) (H : Hp) (dst : Option Nat) (env : Env) (K : Env → Hp → Prop) : Prop :=
  ∃ x, ACall C.P C.G f args H (fun x' H' => x' = x ∧ H' = H) ∧ K (env.put dst x) H

/-- A region whose order is open. -/
theorem ARun.draw {id : Nat} {l : List Oper} (q : Nat → Bool) (hm : C.P.follows .mixedOrders = true) (hB : lexQ q l.toArray l.length 0 (Array.replicate l.length false) = true)
    (h : lexA C l.toArray q (fun env' H' => ARun C k env' H' R) 0 l env H) : ARun C (.code (.region id l.toArray true) :: k) env H R :=
  .of_wp fun σ w a m hpre => by
    obtain ⟨g1, g2⟩ := rel_drew hpre.rel
    have := anyA_lex (C := C) (ops := l.toArray) (Q := fun env' H' => ARun C k env' H' R) l 0 (Array.replicate l.length false) env H (by simp) hB h
    refine wpIn_region_any hm ?_
    rw [List.size_toArray]
    exact anyA_sound (m := m) l.length _ env H σ w.drew a this g1 (hpre.fr.mono g2) (Nat.le_refl _) fun env' H' σ' w' a' b1 b2 b3 b4 => ⟨rfl, env', H', σ', b1, hpre.go b2 b3 (g2.trans b4 (Nat.le_refl _)), g2.trans b4 (Nat.le_refl _)⟩
end draw

end Go.AL
