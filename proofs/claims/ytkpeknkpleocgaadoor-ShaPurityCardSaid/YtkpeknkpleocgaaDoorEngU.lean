/-
  A region whose order is open and that makes rows of its own beside what it reads and calls: one run in the text's order serves every order.
  Conditions: none; nothing here speaks of one program.
-/
import Derived.Test.YtkpeknkpleocgaaDoorEngS
set_option linter.unusedSimpArgs false
set_option linter.unusedVariables false
namespace Go.AL
open Go

/-! ### Reading operations see no new rows -/

def readOp : Op → Bool
  | .move _ | .assign _ | .load .. | .build .. | .nilCheck _ | .binOp .. | .unOp .. | .convert .. | .makeInterface .. | .makeFunc .. | .slice .. | .fieldAddr .. | .field .. | .indexAddr .. | .index .. | .extract .. | .pick .. | .buildSlice .. => true
  | .call c => match c.callee with
    | .value _ => true
    | .builtin b => match b with
      | .len | .min | .max => true
      | _ => false
    | .invoke .. => false
  | _ => false

theorem app_f' {H : Hp} {T : List AB} {b : Nat} {x : AB} (h : H.f b = some x) : (app H T).f b = some x := by rw [app_f (Hp.lt h)]; exact h

theorem new_ne {H : Hp} {x : AB} : H.new x ≠ H := fun h => by
  have := congrArg Hp.n h
  rw [n_new'] at this
  omega

section mono
variable {P : Program} {G : Globs} {H : Hp} {T : List AB} {env : Env}

theorem aLoad_app {t : TypeId} {a y : AV} (h : aLoad P H t a = some y) : aLoad P (app H T) t a = some y := by
  unfold aLoad at h ⊢
  cases hu : P.underlying t with
  | none => simp [hu] at h
  | some d =>
    simp only [hu] at h ⊢
    cases a with
    | ptr b off =>
      simp only at h ⊢
      cases hb : H.f b with
      | none => simp [hb] at h
      | some z => rw [app_f' hb]; rw [hb] at h; exact h
    | _ => exact h

theorem aElems_app {e : TypeId} {x : AV} {ys : List PV} (h : aElems P H e x = some ys) : aElems P (app H T) e x = some ys := by
  unfold aElems at h ⊢
  cases x with
  | ref b off len sz =>
    simp only at h ⊢
    cases hb : H.f b with
    | none => simp [hb] at h
    | some z => rw [app_f' hb]; rw [hb] at h; exact h
  | p x =>
    cases x with
    | s v => cases v <;> exact h
    | _ => exact h
  | _ => exact h

theorem aBytesStr_app {s d : TypeId} {x y : AV} (h : aBytesStr P H s d x = some y) : aBytesStr P (app H T) s d x = some y := by
  unfold aBytesStr at h ⊢
  cases hs : P.underlying s with
  | none => simp [hs] at h
  | some a =>
    cases hd : P.underlying d with
    | none => simp [hs, hd] at h
    | some b =>
      simp only [hs, hd] at h ⊢
      cases a with
      | slice e =>
        cases b with
        | string =>
          simp only at h ⊢
          cases he : P.underlying e with
          | none => simp [he] at h
          | some c =>
            simp only [he] at h ⊢
            split at h
            · split at h
              · rename_i ys hys
                have : (if P.cellsOf e = 1 then aElems P (app H T) e x else none) = some ys := by
                  split at hys
                  · rename_i hc; rw [if_pos hc]; exact aElems_app hys
                  · cases hys
                rw [this]; exact h
              · cases h
            · cases h
        | _ => simp at h
      | _ => cases b <;> simp at h

theorem aConv_app {s d : TypeId} {x y : AV} (h : aConv P H s d x = some y) : aConv P (app H T) s d x = some y := by
  unfold aConv at h ⊢
  split at h
  · exact aBytesStr_app h
  · exact h
  · exact h

theorem read_app {op : Op} {ty : TypeId} {x : AV} (hr : readOp op = true) (h : stepOp P G op ty env H = .val x H) : stepOp P G op ty env (app H T) = .val x (app H T) := by
  have vh : ∀ {y : Option AV}, vH y H = .val x H → y = some x := by
    intro y hy
    cases y with
    | none => cases hy
    | some z => cases hy; rfl
  cases op <;> simp only [readOp, Bool.false_eq_true] at hr <;> simp only [stepOp] at h ⊢
  case move a => cases h; rfl
  case assign a => cases h; rfl
  case build t ps => rw [vh h]; rfl
  case buildSlice t n ps =>
    unfold aBuildSlice at h ⊢
    split at h
    · split at h
      · rename_i hc
        rw [if_pos hc]
        split at h
        · split at h
          · rename_i hall
            rw [if_pos hall]
            simp only [vHH] at h ⊢
            cases h; rfl
          · cases h
        · split at h
          · split at h
            · simp only [vHH] at h
              injection h with h1 h2
              exact absurd h2 new_ne
            · cases h
          · cases h
      · cases h
    · cases h
  case load t a => rw [aLoad_app (vh h)]; rfl
  case nilCheck a => rw [vh h]; rfl
  case binOp o t a b t' => rw [vh h]; rfl
  case unOp o t a => rw [vh h]; rfl
  case convert s d a => rw [aConv_app (vh h)]; rfl
  case makeInterface t a =>
    split at h
    · split at h
      · cases h
      · rename_i hi; rw [if_neg hi]; cases h; rfl
    · cases h
  case makeFunc f a c =>
    split at h
    · cases h; rfl
    · cases h
  case slice t a lo hi mx => rw [vh h]; rfl
  case fieldAddr s a f => rw [vh h]; rfl
  case field s a f => rw [vh h]; rfl
  case indexAddr t a i => rw [vh h]; rfl
  case index t a i => rw [vh h]; rfl
  case extract t i =>
    split at h
    · rw [vh h]; rfl
    · cases h
  case pick c a b =>
    split at h
    · cases h; rfl
    · cases h
  case call c =>
    obtain ⟨callee, args, ts⟩ := c
    cases callee with
    | value f =>
      simp only [stepCall] at h ⊢
      split at h
      · split at h <;> cases h
      · cases h
      · cases h
    | builtin b =>
      simp only [stepBuiltin] at h ⊢
      split at h
      · rw [vh h]; rfl
      · simp only at hr
        cases hr
      · simp only at hr
        cases hr
      · rw [vh h]; rfl
      · rw [vh h]; rfl
      · cases h
    | invoke a b => cases h

theorem call_app {op : Op} {ty : TypeId} {f : FuncId} {args : List AV} (h : stepOp P G op ty env H = .call f args) : stepOp P G op ty env (app H T) = .call f args := by
  have nv : ∀ {y : Option AV}, vH y H ≠ .call f args := by intro y; cases y <;> simp [vH]
  have nvv : ∀ {y : Option (AV × Hp)}, vHH y ≠ .call f args := by intro y; cases y <;> simp [vHH]
  have nu : ∀ {y : Option Hp}, uH y ≠ .call f args := by intro y; cases y <;> simp [uH]
  cases op <;> simp only [stepOp] at h ⊢
  case call c =>
    obtain ⟨callee, args', ts⟩ := c
    cases callee with
    | value g =>
      simp only [stepCall] at h ⊢
      exact h
    | builtin b =>
      simp only [stepBuiltin] at h
      split at h <;> first | exact absurd h nv | exact absurd h nvv | cases h
    | invoke a b => cases h
  all_goals first
    | exact absurd h nv
    | exact absurd h nvv
    | exact absurd h nu
    | cases h
    | (split at h <;> first | cases h | (split at h <;> cases h) | exact absurd h nv | exact absurd h nvv)
end mono


/-! ### New names under other numbers -/

/-- The heap with its names renumbered. -/
structure Perm (k : Nat) (π : Nat → Nat) (σ : Gh) (H1 : Hp) (σ' : Gh) (H2 : Hp) : Prop where
  n : H2.n = H1.n
  le : k ≤ H1.n
  f : ∀ b, H2.f b = H1.f (π b)
  c : ∀ b, σ'.c b = σ.c (π b)
  t : ∀ b, σ'.t b = σ.t (π b)
  inj : ∀ b b', π b = π b' → b = b'
  low : ∀ b, b < k → π b = b
  high : ∀ b, k ≤ b → k ≤ π b
  new : ∀ b x, k ≤ b → H1.f b = some x → ∀ y ∈ x.vals, BelowN k y

section perm
variable {k : Nat} {π : Nat → Nat} {σ σ' : Gh} {H1 H2 : Hp} {w : World} {G : Globs}

theorem Perm.stable (h : Perm k π σ H1 σ' H2) {g o : Nat} (hs : Stable σ H1 g o) : Stable σ' H2 g o :=
  ⟨fun b cs hb => by rw [h.c]; exact hs.1 _ cs (by rw [← h.f]; exact hb), fun b v o' s hb ht => hs.2 (π b) v o' s (by rw [← h.f]; exact hb) (by rw [← h.t]; exact ht)⟩

theorem Perm.free (h : Perm k π σ H1 σ' H2) {g : Nat} (hs : Free σ H1 g) : Free σ' H2 g :=
  ⟨fun b cs hb => by rw [h.c]; exact hs.1 _ cs (by rw [← h.f]; exact hb), fun b v o' s hb ht => hs.2 (π b) v o' s (by rw [← h.f]; exact hb) (by rw [← h.t]; exact ht), fun b vs S hb => by rw [h.c]; exact hs.3 _ vs S (by rw [← h.f]; exact hb)⟩

theorem Perm.relV (h : Perm k π σ H1 σ' H2) {x : AV} {v : Value} (r : RelV σ H1 w x v) : BelowN k x → RelV σ' H2 w x v := by
  have hp : ∀ {x : PV} {v : Value}, RelP w (Stable σ H1) x v → RelP w (Stable σ' H2) x v := fun q => q.mono fun g o v h1 h2 => ⟨h.stable h1, h2⟩
  have hc : ∀ b, b < k → σ'.c b = σ.c b := fun b hb => by rw [h.c, h.low b hb]
  induction r with
  | p q => exact fun _ => .p (hp q)
  | sl q ht =>
    intro hb
    cases hb with | sl _ _ _ _ hb =>
    refine .sl (hp q) ⟨by rw [h.n]; exact ht.1, fun k0 hk0 => ?_⟩
    rw [h.f, h.low _ hb] at hk0
    rw [h.t, h.low _ hb]
    exact ht.2 k0 hk0
  | ref a h0 hb1 hcap ha => intro hb; cases hb with | ref _ _ _ _ hb => exact .ref a h0 (by rw [h.n]; exact hb1) hcap (fun hl => by rw [hc _ hb]; exact ha hl)
  | ptr hb1 => intro hb; cases hb with | ptr _ _ hb => rw [← hc _ hb]; exact .ptr (by rw [h.n]; exact hb1)
  | ip q hi hs => exact fun _ => .ip (hp q) hi hs
  | clo fs cs hf hc' _ _ ih1 ih2 => intro hb; cases hb with | clo _ _ _ h1 h2 => exact .clo fs cs hf hc' (fun i x v a b => ih1 i x v a b (h1 i x a)) (fun i x v a b => ih2 i x v a b (h2 i x a))
  | tup vs hl _ ih => intro hb; cases hb with | tup _ h' => exact .tup vs hl (fun i x v a b => ih i x v a b (h' i x a))
  | agg vs hl h1 _ ih => intro hb; cases hb with | agg _ h' => exact .agg vs hl h1 (fun i x v a b => ih i x v a b (h' i x a))
  | yld hb1 => intro hb; cases hb with | yld _ hb => rw [← hc _ hb]; exact .yld (by rw [h.n]; exact hb1)
  | top v => exact fun _ => .top v

theorem Perm.ev (h : Perm k π σ H1 σ' H2) : Ev k σ H1 w σ' H2 w :=
  ⟨fun g o v h1 h2 => ⟨h.stable h1, h2⟩, fun b hb => by rw [h.c, h.low b hb], by rw [h.n]; exact h.le, fun b hb k' hk' => ⟨k', by rw [h.f, h.low b hb] at hk'; exact hk', Nat.le_refl _, fun _ => by rw [h.t, h.low b hb]⟩, Nat.le_refl _, fun g _ hg => ⟨rfl, h.free hg⟩, rfl, rfl⟩

theorem Perm.rel (h : Perm k π σ H1 σ' H2) (hb : Bel k H1) (hr : Rel G σ H1 w) : Rel G σ' H2 w := by
  have hval : ∀ b x y, H1.f b = some x → y ∈ x.vals → BelowN k y := fun b x y hf hy => by
    by_cases hlt : b < k
    · exact hb b x hlt hf y hy
    · exact h.new b x (by omega) hf y hy
  refine ⟨fun b cs hf => ?_, fun b j g o s hf ht => ?_, fun b b' cs cs' hf hf' he => ?_, fun b b' cs j g o s hf hf' ht => ?_, fun b b' j j' g o s o' s' hf hf' ht ht' => ?_, fun g sz xs hg => h.relV (hr.glob g sz xs hg) (.ip _ _ _ _), fun b vs S hf => ?_, fun b b' vs vs' S S' hf hf' he => ?_⟩
  · rw [h.f] at hf
    obtain ⟨c, e, q1, q2, q3⟩ := hr.cells _ cs hf
    exact ⟨c, e, by rw [h.c]; exact q1, q2, fun i x hx => let ⟨v, a, b'⟩ := q3 i x hx; ⟨v, a, h.relV b'.1 (hval _ _ x hf (List.mem_of_getElem? hx)), b'.2⟩⟩
  · rw [h.f] at hf; rw [h.t] at ht; exact hr.tail _ j g o s hf ht
  · rw [h.f] at hf hf'; rw [h.c, h.c] at he; exact h.inj _ _ (hr.cc _ _ cs cs' hf hf' he)
  · rw [h.f] at hf hf'; rw [h.t] at ht; rw [h.c]; exact hr.ct _ _ cs j g o s hf hf' ht
  · rw [h.f] at hf hf'; rw [h.t] at ht ht'; exact h.inj _ _ (hr.tt _ _ j j' g o s o' s' hf hf' ht ht')
  · rw [h.f] at hf
    obtain ⟨o, us, q1, q2, q3, q4⟩ := hr.objs _ vs S hf
    exact ⟨o, us, by rw [h.c]; exact q1, q2, ⟨q3.1, fun i x v a b' => h.relV (q3.2 i x v a b') (hval _ _ x hf (List.mem_of_getElem? a))⟩, q4⟩
  · rw [h.f] at hf hf'; rw [h.c, h.c] at he; exact h.inj _ _ (hr.oo _ _ vs vs' S S' hf hf' he)
end perm

theorem app_at {H : Hp} : ∀ {T : List AB} {i : Nat}, (app H T).f (H.n + i) = T[i]?
  | [], i => by simp only [app_nil, List.getElem?_nil]; exact H.wf _ (by omega)
  | y :: T, 0 => by rw [app_cons, app_f (by rw [n_new']; omega), f_new_eq (by omega)]; rfl
  | y :: T, i + 1 => by
    have := app_at (H := H.new y) (T := T) (i := i)
    rw [n_new'] at this
    rw [app_cons, List.getElem?_cons_succ, ← this]
    congr 1
    omega

/-- The renumbering of the first m new names: the i-th becomes the place of p + i in the list. -/
def permOf (k p : Nat) (E : List Nat) (b : Nat) : Nat := if k ≤ b ∧ b < k + E.length then k + E.idxOf (p + (b - k)) else b

theorem perm_of {H : Hp} {σ : Gh} {p : Nat} {E : List Nat} {T T' : List AB} (hE : E.Nodup) (hm : ∀ i, i ∈ E ↔ p ≤ i ∧ i < p + E.length) (hT : T.length = E.length) (hT' : T'.length = E.length)
    (hz : ∀ i, i < E.length → T'[i]? = T[E.idxOf (p + i)]?) (hc : ∀ x ∈ T, ∀ y ∈ x.vals, BelowN H.n y) :
    Perm H.n (permOf H.n p E) σ (app H T) ⟨fun b => σ.c (permOf H.n p E b), fun b => σ.t (permOf H.n p E b)⟩ (app H T') := by
  have hidx : ∀ i, i < E.length → E.idxOf (p + i) < E.length := fun i hi => List.idxOf_lt_length_iff.2 ((hm _).2 ⟨by omega, by omega⟩)
  refine ⟨by rw [app_n', app_n', hT, hT'], by rw [app_n']; omega, fun b => ?_, fun _ => rfl, fun _ => rfl, fun b b' h => ?_, fun b hb => ?_, fun b hb => ?_, fun b x hb hf => ?_⟩
  · unfold permOf
    split
    · rename_i h
      rw [show b = H.n + (b - H.n) by omega, app_at, Nat.add_sub_cancel_left, app_at]
      exact hz _ (by omega)
    · rename_i h
      rcases Nat.lt_or_ge b H.n with h1 | h1
      · rw [app_f h1, app_f h1]
      · rw [show b = H.n + (b - H.n) by omega, app_at, app_at, List.getElem?_eq_none (by omega), List.getElem?_eq_none (by omega)]
  · unfold permOf at h
    split at h <;> split at h
    · rename_i h1 h2
      have e : E.idxOf (p + (b - H.n)) = E.idxOf (p + (b' - H.n)) := by omega
      have a1 := List.getElem_idxOf (hidx (b - H.n) (by omega))
      have a2 := List.getElem_idxOf (hidx (b' - H.n) (by omega))
      have : p + (b - H.n) = p + (b' - H.n) := by rw [← a1, ← a2]; congr 1
      omega
    · rename_i h1 h2; have := hidx (b - H.n) (by omega); omega
    · rename_i h1 h2; have := hidx (b' - H.n) (by omega); omega
    · exact h
  · unfold permOf; rw [if_neg (by omega)]
  · unfold permOf; split <;> omega
  · rw [show b = H.n + (b - H.n) by omega, app_at] at hf
    exact hc x (List.mem_of_getElem? hf)


/-! ### The quiet operations, each with a result that does not depend on the order -/
section quiet
variable {C : Cx} {ops : Array Oper}

/-- In this state operation o comes to x, whatever new rows there are. -/
def OpOK (C : Cx) (ops : Array Oper) (o : Oper) (env : Env) (H : Hp) (x : AV) : Prop :=
  dstOK C.nt o.dst = true ∧ BelowN H.n x ∧ ((wantedA C.nt ops o.guard env = some true ∧ ∀ T, aOp1 C o env (app H T) fun x' H' => x' = x ∧ H' = app H T) ∨ (wantedA C.nt ops o.guard env = some false ∧ x = .tup []))

theorem wantedA_congr {o : Oper} {env env' : Env} (h : ∀ s ∈ o.looksAt ops, env s = env' s) : wantedA C.nt ops o.guard env = wantedA C.nt ops o.guard env' := by
  unfold wantedA
  split
  · rfl
  · rename_i j want hg
    cases hd : (ops[j]?).bind (·.dst) with
    | none => rfl
    | some t => simp only [h t (by simp [Oper.looksAt, hg, hd])]

theorem OpOK.congr {o : Oper} {env env' : Env} {H : Hp} {x : AV} (h : ∀ s ∈ o.looksAt ops, env s = env' s) (ho : OpOK C ops o env H x) : OpOK C ops o env' H x := by
  obtain ⟨h1, h2, h3⟩ := ho
  refine ⟨h1, h2, ?_⟩
  rw [← wantedA_congr h]
  rcases h3 with ⟨h3, h4⟩ | h3
  · refine .inl ⟨h3, fun T => ?_⟩
    have := h4 T
    unfold aOp1 at this ⊢
    rwa [← stepOp_congr (env := env) (env' := env') fun y hy t ht => h t (by
      subst ht
      exact List.mem_append_left _ (List.mem_filterMap.2 ⟨.tmp t, by simpa using hy, rfl⟩))]
  · exact .inr h3

/-- A call among them. -/
def CallE (C : Cx) (f : FuncId) (args : List AV) (H : Hp) (K : AV → Prop) : Prop :=
  ∃ x, (∀ T, ACall C.P C.G f args (app H T) fun x' H' => x' = x ∧ H' = app H T) ∧ BelowN H.n x ∧ K x

def stepE (C : Cx) (r : SRes) (rd : Bool) (dst : Option Nat) (H : Hp) (K : AV → Prop) : Prop :=
  match r with
  | .val x H' => dstOK C.nt dst = true ∧ rd = true ∧ H' = H ∧ BelowN H.n x ∧ K x
  | .call f args => dstOK C.nt dst = true ∧ CallE C f (callArgs C.raw f args) H K
  | _ => False

/-- The quiet operations in the text's order. -/
def runE (C : Cx) (ops : Array Oper) : List Oper → Env → Hp → (Env → Prop) → Prop
  | [], env, _, K => K env
  | o :: rest, env, H, K =>
    match wantedA C.nt ops o.guard env with
    | some true => stepE C (stepOp C.P C.G o.op o.type env H) (readOp o.op) o.dst H fun x => runE C ops rest (env.put o.dst x) H K
    | some false => dstOK C.nt o.dst = true ∧ runE C ops rest (env.put o.dst (.tup [])) H K
    | none => False

def puts : List Oper → List AV → Env → Env
  | o :: l, x :: xs, env => puts l xs (env.put o.dst x)
  | _, _, env => env

theorem runE_vals : ∀ {l : List Oper} {env : Env} {H : Hp} {K : Env → Prop}, runE C ops l env H K → ∃ X : List AV, X.length = l.length ∧ K (puts l X env) ∧ ∀ (i : Nat) o x, l[i]? = some o → X[i]? = some x → OpOK C ops o (puts (l.take i) (X.take i) env) H x
  | [], env, H, K, h => ⟨[], rfl, h, fun i o x h1 => by simp at h1⟩
  | o :: l, env, H, K, h => by
    have key : ∀ x, OpOK C ops o env H x → runE C ops l (env.put o.dst x) H K → ∃ X : List AV, X.length = (o :: l).length ∧ K (puts (o :: l) X env) ∧ ∀ (i : Nat) o' x, (o :: l)[i]? = some o' → X[i]? = some x → OpOK C ops o' (puts ((o :: l).take i) (X.take i) env) H x := by
      intro x hx hr
      obtain ⟨X, h1, h2, h3⟩ := runE_vals hr
      refine ⟨x :: X, by simp [h1], h2, fun i o' y ho' hy => ?_⟩
      cases i with
      | zero => simp at ho' hy; subst ho'; subst hy; exact hx
      | succ i => simp only [List.getElem?_cons_succ] at ho' hy; exact h3 i o' y ho' hy
    unfold runE at h
    split at h
    · rename_i hw
      unfold stepE at h
      split at h
      · rename_i x H' hs
        obtain ⟨h1, h2, rfl, h4, h5⟩ := h
        refine key x ⟨h1, h4, .inl ⟨hw, fun T => ?_⟩⟩ h5
        unfold aOp1
        rw [read_app h2 hs]
        exact ⟨h1, rfl, rfl⟩
      · rename_i f args hs
        obtain ⟨h1, x, h2, h3, h4⟩ := h
        refine key x ⟨h1, h3, .inl ⟨hw, fun T => ?_⟩⟩ h4
        unfold aOp1
        rw [call_app hs]
        exact ⟨h1, h2 T⟩
      · exact h.elim
    · rename_i hw
      exact key (.tup []) ⟨h.1, .tup _ (by simp), .inr ⟨hw, rfl⟩⟩ h.2
    · exact h.elim
end quiet

/-! ### What has run, and what the slots then hold -/

def dstOf (ops : Array Oper) (i : Nat) : Option Nat := (ops[i]?).bind (·.dst)

/-- The slots after these operations came to these values, the last first. -/
def after (ops : Array Oper) (env : Env) : List (Nat × AV) → Env
  | [] => env
  | (i, x) :: r => (after ops env r).put (dstOf ops i) x

theorem after_get {ops : Array Oper} {env : Env} {s : Nat} : ∀ {tr : List (Nat × AV)} {i : Nat} {x : AV}, (i, x) ∈ tr → dstOf ops i = some s → (∀ j y, (j, y) ∈ tr → dstOf ops j = some s → j = i) → (tr.map (·.1)).Nodup → after ops env tr s = x
  | [], i, x, h, _, _, _ => by cases h
  | (j, y) :: r, i, x, h, hd, hu, hn => by
    simp only [List.map_cons, List.nodup_cons] at hn
    simp only [after]
    rcases List.mem_cons.1 h with h | h
    · cases h
      rw [hd]; simp [Env.put]
    · have hne : dstOf ops j ≠ some s := fun e => by
        have := hu j y (by simp) e
        subst this
        exact hn.1 (List.mem_map.2 ⟨_, h, rfl⟩)
      rw [put_ne fun t ht e => hne (by rw [ht, e])]
      exact after_get h hd (fun j' y' h' => hu j' y' (by simp [h'])) hn.2

theorem after_none {ops : Array Oper} {env : Env} {s : Nat} : ∀ {tr : List (Nat × AV)}, (∀ j y, (j, y) ∈ tr → dstOf ops j ≠ some s) → after ops env tr s = env s
  | [], _ => rfl
  | (j, y) :: r, h => by
    simp only [after]
    rw [put_ne fun t ht e => h j y (by simp) (by rw [ht, e])]
    exact after_none fun j' y' h' => h j' y' (by simp [h'])

theorem puts_none {s : Nat} : ∀ {l : List Oper} {X : List AV} {env : Env}, (∀ (j : Nat) o, l[j]? = some o → o.dst ≠ some s) → puts l X env s = env s
  | [], _, _, _ => rfl
  | o :: l, [], _, _ => rfl
  | o :: l, x :: X, env, h => by
    simp only [puts]
    rw [puts_none fun j o' ho => h (j + 1) o' (by simpa using ho)]
    exact put_ne fun t ht e => h 0 o rfl (by rw [ht, e])

theorem puts_get {s : Nat} : ∀ {l : List Oper} {X : List AV} {env : Env} {j : Nat} {o : Oper} {x : AV}, l[j]? = some o → X[j]? = some x → o.dst = some s → (∀ (j' : Nat) o', l[j']? = some o' → o'.dst = some s → j' = j) → puts l X env s = x
  | [], _, _, _, _, _, h, _, _, _ => by simp at h
  | o :: l, [], _, _, _, _, _, h, _, _ => by simp at h
  | o :: l, y :: X, env, 0, o', x, h1, h2, hd, hu => by
    simp at h1 h2
    subst h1; subst h2
    simp only [puts]
    rw [puts_none fun j o' ho hd' => by have := hu (j + 1) o' (by simpa using ho) hd'; omega]
    rw [hd]; simp [Env.put]
  | o :: l, y :: X, env, j + 1, o', x, h1, h2, hd, hu => by
    simp only [puts]
    exact puts_get (by simpa using h1) (by simpa using h2) hd fun j' o'' ho hd' => by have := hu (j' + 1) o'' (by simpa using ho) hd'; omega

/-! ### The check on a region: p1 quiet operations, then allocations up to p, then the rest -/

def waitsFor (o : Oper) (j : Nat) : Bool := o.after.any fun e => Region.binds .any e && e.on == j

def edgesOf (o : Oper) : List Nat := (o.after.toList.filter fun e => Region.binds .any e).map (·.on)
/-- What these wait for, straight or through each other. -/
def closeDown (ops : Array Oper) : Nat → List Nat → List Nat
  | 0, s => s
  | k + 1, s => closeDown ops k (if s.contains k then (match ops[k]? with | some o => s ++ (edgesOf o).filter (fun j => !s.contains j) | none => s) else s)

theorem closeDown_sub {ops : Array Oper} {S : Nat → Prop} (hS : ∀ (k : Nat) o, ops[k]? = some o → S k → ∀ e ∈ o.after, Region.binds .any e = true → S e.on) : ∀ (n : Nat) (s : List Nat), (∀ j ∈ s, S j) → ∀ j ∈ closeDown ops n s, S j
  | 0, s, h => h
  | k + 1, s, h => closeDown_sub hS k _ fun j hj => by
    split at hj
    · rename_i hk
      split at hj
      · rename_i o ho
        rcases List.mem_append.1 hj with hj | hj
        · exact h j hj
        · obtain ⟨e, he, rfl⟩ := List.mem_map.1 (List.mem_filter.1 hj).1
          obtain ⟨h1, h2⟩ := List.mem_filter.1 he
          exact hS k o ho (h k (by simpa using hk)) e (Array.mem_toList_iff.1 h1) h2
      · exact h j hj
    · exact h j hj

def okE (ops : Array Oper) (p1 p : Nat) : Bool :=
  p1 ≤ p && p ≤ ops.size && (List.range ops.size).all fun i => match ops[i]? with
    | none => false
    | some o =>
      if i < p then
        (List.range p).all (fun j => j == i || (dstOf ops j).isNone || dstOf ops j != o.dst) &&
        o.after.all (fun e => !Region.binds .any e || decide (e.on < i)) &&
        (if i < p1 then
          (List.range p).all (fun j => match dstOf ops j with
            | some s => !(o.looksAt ops).contains s || (decide (j < i) && decide (j < p1) && waitsFor o j)
            | none => true)
        else (match o.op with | .alloc _ => true | _ => false) && o.guard.isNone && o.dst.isSome)
      else (List.range p).all fun j => (closeDown ops p ((edgesOf o).filter fun j => decide (j < p))).contains j

structure OkE (ops : Array Oper) (p1 p : Nat) : Prop where
  le : p1 ≤ p
  size : p ≤ ops.size
  dst : ∀ i o j s, ops[i]? = some o → i < p → j < p → o.dst = some s → dstOf ops j = some s → j = i
  back : ∀ (i : Nat) o, ops[i]? = some o → i < p → ∀ e ∈ o.after, Region.binds .any e = true → e.on < i
  quiet : ∀ (i : Nat) o, ops[i]? = some o → i < p1 → ∀ s ∈ o.looksAt ops, ∀ j, j < p → dstOf ops j = some s → j < i ∧ j < p1 ∧ waitsFor o j = true
  alloc : ∀ (i : Nat) o, ops[i]? = some o → p1 ≤ i → i < p → (∃ t, o.op = .alloc t) ∧ o.guard = none ∧ ∃ s, o.dst = some s
  late : ∀ (i : Nat) o, ops[i]? = some o → p ≤ i → ∀ j, j < p → j ∈ closeDown ops p ((edgesOf o).filter fun j => decide (j < p))

theorem okE_spec {ops : Array Oper} {p1 p : Nat} (h : okE ops p1 p = true) : OkE ops p1 p := by
  simp only [okE, Bool.and_eq_true, decide_eq_true_eq, List.all_eq_true, List.mem_range] at h
  obtain ⟨⟨h1, h2⟩, h3⟩ := h
  have lt : ∀ {i : Nat} {o : Oper}, ops[i]? = some o → i < ops.size := fun h => (Array.getElem?_eq_some_iff.1 h).1
  refine ⟨h1, h2, fun i o j s hi hip hj hd hdj => ?_, fun i o hi hip e he hb => ?_, fun i o hi hip s hs j hj hdj => ?_, fun i o hi hp1 hip => ?_, fun i o hi hip j hj => ?_⟩
  · have := h3 i (lt hi)
    simp only [hi, if_pos hip, Bool.and_eq_true, List.all_eq_true, List.mem_range] at this
    have := this.1.1 j hj
    simpa [hdj, hd] using this
  · have := h3 i (lt hi)
    simp only [hi, if_pos hip, Bool.and_eq_true, Array.all_eq_true'] at this
    have := this.1.2 e he
    simpa [hb] using this
  · have := h3 i (lt hi)
    simp only [hi, if_pos (show i < p by omega), if_pos hip, Bool.and_eq_true, List.all_eq_true, List.mem_range] at this
    have := this.2 j hj
    simp only [hdj, Bool.or_eq_true, Bool.not_eq_true', Bool.and_eq_true, decide_eq_true_eq] at this
    rcases this with h | h
    · rw [List.contains_eq_mem, decide_eq_false_iff_not] at h; exact absurd hs h
    · exact ⟨h.1.1, h.1.2, h.2⟩
  · have := h3 i (lt hi)
    simp only [hi, if_pos hip, if_neg (show ¬i < p1 by omega), Bool.and_eq_true, Option.isNone_iff_eq_none, Option.isSome_iff_exists] at this
    obtain ⟨_, ⟨h4, h5⟩, h6⟩ := this
    refine ⟨?_, h5, h6⟩
    split at h4
    · rename_i t ht; exact ⟨t, ht⟩
    · cases h4
  · have := h3 i (lt hi)
    simp only [hi, if_neg (show ¬i < p by omega), List.all_eq_true, List.mem_range] at this
    simpa using this j hj

theorem waitsFor_listed {o : Oper} {j : Nat} {listed : Array Bool} (h : waitsFor o j = true) (hall : ∀ e ∈ o.after, Region.binds .any e = true → listed.getD e.on false = true) : listed.getD j false = true := by
  obtain ⟨e, he, hb⟩ := Array.any_eq_true'.1 h
  simp only [Bool.and_eq_true, beq_iff_eq] at hb
  rw [← hb.2]
  exact hall e he hb.1


structure Inv1 (C : Cx) (l : List Oper) (p1 p : Nat) (X : List AV) (zs : Nat → List PV) (env0 : Env) (H : Hp) (σs : Gh) (ws : World) (m : Nat)
    (tr : List (Nat × AV)) (rem E : List Nat) (T : List AB) (listed : Array Bool) (σ : Gh) (w : World) (a : Act) : Prop where
  nd : (tr.map (·.1)).Nodup
  rnd : rem.Nodup
  rem : ∀ i, i ∈ rem ↔ i < p ∧ i ∉ tr.map (·.1)
  lt : ∀ i, i ∈ tr.map (·.1) → i < p
  q : ∀ i x, (i, x) ∈ tr → i < p1 → X[i]? = some x
  al : ∀ i x, (i, x) ∈ tr → p1 ≤ i → ∃ k : Nat, E[k]? = some i ∧ x = .ptr (H.n + k) 0
  end_ : E.Nodup
  eiff : ∀ i, i ∈ E ↔ p1 ≤ i ∧ i ∈ tr.map (·.1)
  t : T = E.map fun i => .cells ((zs i).map .p)
  cl : ∀ (k : Nat) o, l.toArray[k]? = some o → k ∈ tr.map (·.1) → ∀ e ∈ o.after, Region.binds .any e = true → e.on ∈ tr.map (·.1)
  lsz : listed.size = l.length
  lget : ∀ i, i < l.length → listed.getD i true = decide (i ∈ tr.map (·.1))
  rel : Rel C.G σ (app H T) w
  fr : RelF C.nt m σ (app H T) w (after l.toArray env0 tr) a
  ev : Ev H.n σs H ws σ (app H T) w

section phase
variable {C : Cx} {l : List Oper} {p1 p : Nat} {X : List AV} {zs : Nat → List PV} {env0 : Env} {H : Hp} {σs : Gh} {ws : World} {m : Nat} {ro : Option Nat} {R1 : Exit → Act → World → Prop}

theorem getD_lt {listed : Array Bool} {i : Nat} (h : i < listed.size) (d d' : Bool) : listed.getD i d = listed.getD i d' := by
  simp [Array.getD_eq_getD_getElem?, h]

theorem phase1 (hok : OkE l.toArray p1 p) (hop : ∀ (i : Nat) o x, i < p1 → l[i]? = some o → X[i]? = some x → OpOK C l.toArray o (puts (l.take i) (X.take i) env0) H x) (hX : X.length = p1)
    (haz : ∀ (i : Nat) o t, p1 ≤ i → i < p → l[i]? = some o → o.op = .alloc t → azero C.P t = some (zs i) ∧ dstOK C.nt o.dst = true)
    (hfin : ∀ tr E T listed σ w a, Inv1 C l p1 p X zs env0 H σs ws m tr [] E T listed σ w a → wpAnyIn { Fence.wide with round := ro } 0 C.P .any l.toArray R1 (l.length - p) listed a w) :
    ∀ r tr rem E T listed σ w a, rem.length = r → Inv1 C l p1 p X zs env0 H σs ws m tr rem E T listed σ w a → wpAnyIn { Fence.wide with round := ro } 0 C.P .any l.toArray R1 (r + (l.length - p)) listed a w := by
  intro r
  induction r with
  | zero =>
    intro tr rem E T listed σ w a hr I
    have : rem = [] := List.eq_nil_of_length_eq_zero hr
    subst this
    rw [Nat.zero_add]
    exact hfin tr E T listed σ w a I
  | succ r ih =>
    intro tr rem E T listed σ w a hr I
    have hpl : p ≤ l.length := by simpa using hok.size
    have hunl : ∀ i, i < l.length → (listed.getD i true = false ↔ i ∉ tr.map (·.1)) := fun i hi => by rw [I.lget i hi]; simp
    have hlis : ∀ i, i < l.length → listed.getD i false = true → i ∈ tr.map (·.1) := fun i hi h => by
      rw [getD_lt (by rw [I.lsz]; exact hi) false true, I.lget i hi] at h
      simpa using h
    have hlis' : ∀ i, i < l.length → i ∈ tr.map (·.1) → listed.getD i false = true := fun i hi h => by
      rw [getD_lt (by rw [I.lsz]; exact hi) false true, I.lget i hi]
      simpa using h
    have hne : rem ≠ [] := fun h => by rw [h] at hr; cases hr
    have hsome : ¬∀ i, i < p → i ∈ tr.map (·.1) := fun h => by
      obtain ⟨i, hi⟩ := List.exists_mem_of_ne_nil rem hne
      exact ((I.rem i).1 hi).2 (h i ((I.rem i).1 hi).1)
    rw [show r + 1 + (l.length - p) = (r + (l.length - p)) + 1 by omega]
    refine ⟨fun h0 => ?_, fun i hi => ?_⟩
    · -- something is ready
      refine absurd ?_ hsome
      intro i
      induction i using Nat.strongRecOn with
      | _ i ihi =>
        intro hip
        refine Classical.byContradiction fun hni => ?_
        have hil : i < l.length := by omega
        have hoi : l.toArray[i]? = some l[i] := by simp [hil]
        have : i ∈ Region.ready .any l.toArray listed := mem_ready.2 ⟨(hunl i hil).2 hni, l[i], hoi, fun e he hb => by
          have hlt := hok.back i _ hoi hip e he hb
          exact hlis' _ (by omega) (ihi _ hlt (by omega))⟩
        rw [h0] at this
        cases this
    · obtain ⟨hun, o, ho, hall⟩ := mem_ready.1 hi
      have hil : i < l.length := by simpa using (Array.getElem?_eq_some_iff.1 ho).1
      have hol : l[i]? = some o := by simpa using ho
      have hni := (hunl i hil).1 hun
      have hip : i < p := Classical.byContradiction fun h => hsome fun j hj => closeDown_sub (S := fun j => j ∈ tr.map (·.1)) I.cl p _ (fun j' hj' => by
        obtain ⟨h1, h2⟩ := List.mem_filter.1 hj'
        obtain ⟨e, he, rfl⟩ := List.mem_map.1 h1
        obtain ⟨h3, h4⟩ := List.mem_filter.1 he
        exact hlis _ (by simp at h2; omega) (hall e (Array.mem_toList_iff.1 h3) h4)) j (hok.late i o ho (by omega) j hj)
      have hirem : i ∈ rem := (I.rem i).2 ⟨hip, hni⟩
      have hdst : dstOf l.toArray i = o.dst := by simp [dstOf, ho]
      -- what is handed on
      have go : ∀ x v E' T' σ' w', (i < p1 → X[i]? = some x ∧ E' = E ∧ T' = T) → (p1 ≤ i → E' = E ++ [i] ∧ T' = T ++ [.cells ((zs i).map .p)] ∧ x = .ptr (H.n + E.length) 0) → Rel C.G σ' (app H T') w' → RelV σ' (app H T') w' x v → Ev (app H T).n σ (app H T) w σ' (app H T') w' → dstOK C.nt o.dst = true →
          wpAnyIn { Fence.wide with round := ro } 0 C.P .any l.toArray R1 (r + (l.length - p)) (listed.setIfInBounds i true) (a.put o.dst v) w' := by
        intro x v E' T' σ' w' hq hal hrel hrv hev hd
        have hEl : E'.Nodup ∧ (∀ j, j ∈ E' ↔ p1 ≤ j ∧ (j = i ∨ j ∈ tr.map (·.1))) ∧ T' = E'.map (fun i => .cells ((zs i).map .p)) := by
          by_cases hi1 : i < p1
          · obtain ⟨_, rfl, rfl⟩ := hq hi1
            refine ⟨I.end_, fun j => ?_, I.t⟩
            rw [I.eiff]
            constructor
            · exact fun h => ⟨h.1, .inr h.2⟩
            · rintro ⟨h1, rfl | h2⟩
              · omega
              · exact ⟨h1, h2⟩
          · obtain ⟨rfl, rfl, _⟩ := hal (by omega)
            refine ⟨List.nodup_append.2 ⟨I.end_, by simp, fun j hj k hk e => ?_⟩, fun j => ?_, by rw [List.map_append, ← I.t]; rfl⟩
            · simp only [List.mem_singleton] at hk
              subst hk; subst e
              exact hni ((I.eiff _).1 hj).2
            · rw [List.mem_append, List.mem_singleton, I.eiff]
              constructor
              · rintro (h | rfl)
                · exact ⟨h.1, .inr h.2⟩
                · exact ⟨by omega, .inl rfl⟩
              · rintro ⟨h1, rfl | h2⟩
                · exact .inr rfl
                · exact .inl ⟨h1, h2⟩
        refine ih ((i, x) :: tr) (rem.erase i) E' T' _ σ' w' _ (by rw [List.length_erase_of_mem hirem, hr]; rfl) ⟨?_, I.rnd.erase i, fun j => ?_, fun j hj => ?_, fun j y hj h1 => ?_, fun j y hj h1 => ?_, hEl.1, fun j => ?_, hEl.2.2, fun j o' ho' hj e he hb => ?_, ?_, fun j hj => ?_, hrel, ?_, I.ev.trans (hev.weaken (by rw [app_n']; omega)) (Nat.le_refl _)⟩
        · rw [List.map_cons, List.nodup_cons]; exact ⟨hni, I.nd⟩
        · rw [I.rnd.mem_erase_iff, I.rem, List.map_cons, List.mem_cons]
          constructor
          · exact fun h => ⟨h.2.1, fun h' => h'.elim h.1 h.2.2⟩
          · exact fun h => ⟨fun e => h.2 (.inl e), h.1, fun e => h.2 (.inr e)⟩
        · rw [List.map_cons, List.mem_cons] at hj
          rcases hj with rfl | hj
          · exact hip
          · exact I.lt j hj
        · rcases List.mem_cons.1 hj with h | h
          · cases h; exact (hq h1).1
          · exact I.q j y h h1
        · rcases List.mem_cons.1 hj with h | h
          · cases h
            obtain ⟨rfl, _, rfl⟩ := hal h1
            exact ⟨E.length, by simp, rfl⟩
          · obtain ⟨k, hk, hy⟩ := I.al j y h h1
            refine ⟨k, ?_, hy⟩
            by_cases hi1 : i < p1
            · rw [(hq hi1).2.1]; exact hk
            · rw [(hal (by omega)).1, List.getElem?_append_left (List.getElem?_eq_some_iff.1 hk).1]; exact hk
        · rw [List.map_cons, List.mem_cons]; exact hEl.2.1 j
        · rw [List.map_cons, List.mem_cons] at hj ⊢
          rcases hj with h | h
          · simp only at h
            subst h
            rw [ho] at ho'; cases ho'
            have := hok.back j o ho hip e he hb
            exact .inr (hlis _ (by omega) (hall e he hb))
          · exact .inr (I.cl j o' ho' h e he hb)
        · rw [Array.size_setIfInBounds]; exact I.lsz
        · rw [List.map_cons]
          by_cases hij : i = j
          · subst hij
            have : (listed.setIfInBounds i true).getD i true = true := by simp [Array.getD_eq_getD_getElem?]
            rw [this]; simp
          · rw [getD_set_ne true hij, I.lget j hj]
            simp [Ne.symm hij]
        · have := (I.fr.mono hev).put (dstOK_spec hd) hrv
          simp only [after, hdst]
          exact this
      unfold wpOpIn
      simp only [ho]
      by_cases hi1 : i < p1
      · -- a quiet operation
        have hxi : X[i]? = some X[i] := by simp [hX, hi1]
        have hOK : OpOK C l.toArray o (after l.toArray env0 tr) H X[i] := by
          refine (hop i o X[i] hi1 hol hxi).congr fun s hs => ?_
          by_cases hw : ∃ j, j < p ∧ dstOf l.toArray j = some s
          · obtain ⟨j, hj, hdj⟩ := hw
            obtain ⟨h1, h2, h3⟩ := hok.quiet i o ho hi1 s hs j hj hdj
            have hjt := hlis j (by omega) (waitsFor_listed h3 hall)
            obtain ⟨⟨j', y⟩, hjy, rfl⟩ := List.mem_map.1 hjt
            have hjl : j' < l.length := by omega
            have hoj : l[j']? = some l[j'] := by simp [hjl]
            have hdd : l[j'].dst = some s := by simpa [dstOf, hoj] using hdj
            have hyx := I.q j' y hjy h2
            rw [after_get hjy hdj (fun k z hk hdk => by
              have hkp := I.lt k (List.mem_map.2 ⟨_, hk, rfl⟩)
              exact hok.dst j' l[j'] k s (by simp [hjl]) hj hkp hdd hdk) I.nd]
            refine puts_get (j := j') (o := l[j']) (by rw [List.getElem?_take_of_lt h1]; exact hoj) (by rw [List.getElem?_take_of_lt h1]; exact hyx) hdd fun k o' hk hdk => ?_
            have hki : k < i := by have := (List.getElem?_eq_some_iff.1 hk).1; simp at this; omega
            rw [List.getElem?_take_of_lt hki] at hk
            exact hok.dst j' l[j'] k s (by simp [hjl]) hj (by omega) hdd (by simp [dstOf, hk, hdk])
          · rw [after_none fun j y hj hd => hw ⟨j, I.lt j (List.mem_map.2 ⟨_, hj, rfl⟩), hd⟩]
            refine puts_none fun j o' hj hd => hw ⟨j, ?_, ?_⟩
            · have := (List.getElem?_eq_some_iff.1 hj).1; simp at this; omega
            · have hji : j < i := by have := (List.getElem?_eq_some_iff.1 hj).1; simp at this; omega
              rw [List.getElem?_take_of_lt hji] at hj
              simp [dstOf, hj, hd]
        obtain ⟨hd, hbn, hcase⟩ := hOK
        rcases hcase with ⟨hw, hstep⟩ | ⟨hw, hx⟩
        · rw [if_pos (wantedA_spec hw I.fr rfl)]
          refine (hstep T).wp I.rel I.fr ?_
          intro x v H' σ' w' ⟨e1, e2⟩ _ hrel hrv hev
          subst e1; subst e2
          exact go _ v E T σ' w' (fun _ => ⟨hxi, rfl, rfl⟩) (fun h => by omega) hrel hrv hev hd
        · rw [if_neg (by rw [wantedA_spec hw I.fr rfl]; simp)]
          refine ⟨fun f _ => trivial, go X[i] undef E T σ w (fun _ => ⟨hxi, rfl, rfl⟩) (fun h => by omega) I.rel (by rw [hx]; exact .tup #[] rfl (by simp)) (Ev.refl (Nat.le_refl _)) hd⟩
      · -- an allocation
        obtain ⟨⟨t, ht⟩, hg, s, hs⟩ := hok.alloc i o ho (by omega) hip
        obtain ⟨hz, hd⟩ := haz i o t (by omega) hip hol ht
        rw [if_pos (by simp [Region.wanted, hg])]
        have hstep : aOp1 C o (after l.toArray env0 tr) (app H T) fun x H' => x = .ptr (app H T).n 0 ∧ H' = (app H T).new (.cells ((zs i).map .p)) := by
          unfold aOp1
          rw [ht]
          simp only [stepOp, hz]
          exact ⟨hd, rfl, rfl⟩
        refine hstep.wp I.rel I.fr ?_
        intro x v H' σ' w' ⟨e1, e2⟩ _ hrel hrv hev
        subst e1; subst e2
        have hTl : T.length = E.length := by rw [I.t]; simp
        have happ : (app H T).new (.cells ((zs i).map .p)) = app H (T ++ [.cells ((zs i).map .p)]) := by rw [new_app, app_app]
        rw [happ] at hrel hrv hev
        exact go _ v (E ++ [i]) (T ++ [.cells ((zs i).map .p)]) σ' w' (fun h => absurd h hi1) (fun _ => ⟨rfl, rfl, by rw [app_n', hTl]⟩) hrel hrv hev hd

theorem puts_append : ∀ {l1 l2 : List Oper} {X1 X2 : List AV} {env : Env}, X1.length = l1.length → puts (l1 ++ l2) (X1 ++ X2) env = puts l2 X2 (puts l1 X1 env)
  | [], l2, [], X2, env, _ => rfl
  | [], l2, x :: X1, X2, env, h => by simp at h
  | o :: l1, l2, [], X2, env, h => by simp at h
  | o :: l1, l2, x :: X1, X2, env, h => by
    simp only [List.cons_append, puts]
    exact puts_append (by simpa using h)

theorem nodup_len {E : List Nat} {a n : Nat} (hE : E.Nodup) (hm : ∀ i, i ∈ E ↔ a ≤ i ∧ i < a + n) : E.length = n := by
  have := ((List.perm_ext_iff_of_nodup hE (List.nodup_range' (s := a) (n := n) (step := 1))).2 fun i => by rw [List.mem_range'_1]; exact hm i).length_eq
  simpa using this

/-- When all that must run first has run, one state serves all orders. -/
theorem phase1_end (hok : OkE l.toArray p1 p) (hop : ∀ (i : Nat) o x, i < p1 → l[i]? = some o → X[i]? = some x → BelowN H.n x) (hX : X.length = p1) (hb0 : ∀ s, BelowN H.n (env0 s)) (hbel : Bel H.n H)
    {tr : List (Nat × AV)} {E : List Nat} {T : List AB} {listed : Array Bool} {σ : Gh} {w : World} {a : Act} (I : Inv1 C l p1 p X zs env0 H σs ws m tr [] E T listed σ w a) :
    ∃ σ', Rel C.G σ' (app H ((List.range (p - p1)).map fun j => .cells ((zs (p1 + j)).map .p))) w ∧
      RelF C.nt m σ' (app H ((List.range (p - p1)).map fun j => .cells ((zs (p1 + j)).map .p))) w (puts (l.take p) (X ++ (List.range (p - p1)).map fun j => .ptr (H.n + j) 0) env0) a ∧
      Ev H.n σs H ws σ' (app H ((List.range (p - p1)).map fun j => .cells ((zs (p1 + j)).map .p))) w ∧ listed = ((List.range l.length).map fun i => decide (i < p)).toArray := by
  have hpl : p ≤ l.length := by simpa using hok.size
  have hle := hok.le
  have hin : ∀ i, i < p → i ∈ tr.map (·.1) := fun i hi => Classical.byContradiction fun h => by
    have := (I.rem i).2 ⟨hi, h⟩
    cases this
  have hEm : ∀ i, i ∈ E ↔ p1 ≤ i ∧ i < p1 + (p - p1) := fun i => by
    rw [I.eiff]
    exact ⟨fun h => ⟨h.1, by have := I.lt i h.2; omega⟩, fun h => ⟨h.1, hin i (by omega)⟩⟩
  have hEl : E.length = p - p1 := nodup_len I.end_ hEm
  have hP := perm_of (H := H) (σ := σ) (p := p1) (E := E) (T := T) (T' := (List.range (p - p1)).map fun j => .cells ((zs (p1 + j)).map .p)) I.end_ (by rw [hEl]; exact hEm) (by rw [I.t]; simp) (by simp [hEl]) (fun i hi => by
    have hix : E.idxOf (p1 + i) < E.length := List.idxOf_lt_length_iff.2 ((hEm _).2 ⟨by omega, by omega⟩)
    rw [I.t, List.getElem?_map, List.getElem?_map, List.getElem?_eq_getElem hix, List.getElem_idxOf hix]
    simp [hEl ▸ hi]) (fun x hx y hy => by
      rw [I.t] at hx
      obtain ⟨i, _, rfl⟩ := List.mem_map.1 hx
      simp only [AB.vals, List.mem_map] at hy
      obtain ⟨z, _, rfl⟩ := hy
      exact .p z)
  have hbel' : Bel H.n (app H T) := fun b x hb hf y hy => hbel b x hb (by rwa [app_f hb] at hf) y hy
  refine ⟨_, hP.rel hbel' I.rel, ⟨?_, I.fr.size, fun s => ?_⟩, I.ev.trans hP.ev (Nat.le_refl _), ?_⟩
  · obtain ⟨ms, q1, q2, q3⟩ := I.fr.defers
    exact ⟨ms, q1, q2, fun g hg => let ⟨a1, a2, a3⟩ := q3 g hg; ⟨a1, a2, hP.free a3⟩⟩
  · have hs := I.fr.slot s
    have hget : ∀ (j : Nat) o', (l.take p)[j]? = some o' → j < p ∧ dstOf l.toArray j = o'.dst := fun j o' hj => by
      have hjp : j < p := by have := (List.getElem?_eq_some_iff.1 hj).1; simp at this; omega
      rw [List.getElem?_take_of_lt hjp] at hj
      exact ⟨hjp, by simp [dstOf, hj]⟩
    by_cases hw : ∃ j, j < p ∧ dstOf l.toArray j = some s
    · obtain ⟨j, hj, hdj⟩ := hw
      obtain ⟨⟨j', x⟩, hjx, rfl⟩ := List.mem_map.1 (hin j hj)
      have hjl : j' < l.length := by omega
      have hoj : l[j']? = some l[j'] := by simp [hjl]
      have hdd : l[j'].dst = some s := by simpa [dstOf, hoj] using hdj
      rw [after_get hjx hdj (fun i z hi hdi => hok.dst j' l[j'] i s (by simp [hjl]) hj (I.lt i (List.mem_map.2 ⟨_, hi, rfl⟩)) hdd hdi) I.nd] at hs
      have huniq : ∀ (i : Nat) o', (l.take p)[i]? = some o' → o'.dst = some s → i = j' := fun i o' hi hdi => by
        obtain ⟨h1, h2⟩ := hget i o' hi
        exact hok.dst j' l[j'] i s (by simp [hjl]) hj h1 hdd (h2.trans hdi)
      have hoj' : (l.take p)[j']? = some l[j'] := by rw [List.getElem?_take_of_lt hj]; exact hoj
      by_cases h1 : j' < p1
      · have hxj := I.q j' x hjx h1
        rw [puts_get (x := x) hoj' (by rw [List.getElem?_append_left (by omega)]; exact hxj) hdd huniq]
        exact hP.relV hs (hop j' _ x h1 hoj hxj)
      · obtain ⟨kk, hk, rfl⟩ := I.al j' x hjx (by omega)
        rw [puts_get (x := .ptr (H.n + (j' - p1)) 0) hoj' (by have hj2 : j' < p := hj; rw [List.getElem?_append_right (by omega), hX, List.getElem?_map, List.getElem?_range (by omega)]; rfl) hdd huniq]
        generalize a.tmps.getD s undef = v at hs
        have hkl := (List.getElem?_eq_some_iff.1 hk).1
        have hidx : E.idxOf j' = kk := by
          have hix : E.idxOf j' < E.length := List.idxOf_lt_length_iff.2 (List.mem_of_getElem? hk)
          refine (List.getElem_inj I.end_ (h₀ := hix) (h₁ := hkl)).1 ?_
          rw [List.getElem_idxOf hix]
          exact (List.getElem?_eq_some_iff.1 hk).2.symm
        have hperm : permOf H.n p1 E (H.n + (j' - p1)) = H.n + kk := by
          unfold permOf
          rw [if_pos (by omega), Nat.add_sub_cancel_left, show p1 + (j' - p1) = j' by omega, hidx]
        cases hs with | ptr hb =>
        rw [← hperm]
        exact .ptr (σ := ⟨fun b => σ.c (permOf H.n p1 E b), fun b => σ.t (permOf H.n p1 E b)⟩) (by rw [app_n', List.length_map, List.length_range]; have : j' < p := hj; omega)
    · rw [after_none fun j y hj hd => hw ⟨j, I.lt j (List.mem_map.2 ⟨_, hj, rfl⟩), hd⟩] at hs
      rw [puts_none fun j o' hj hd => hw ⟨j, (hget j o' hj).1, (hget j o' hj).2.trans hd⟩]
      exact hP.relV hs (hb0 s)
  · refine Array.ext (by rw [I.lsz]; simp) fun i h1 h2 => ?_
    rw [I.lsz] at h1
    have := I.lget i h1
    rw [Array.getD_eq_getD_getElem?, Array.getElem?_eq_getElem (by rw [I.lsz]; exact h1)] at this
    simp only [Option.getD_some] at this
    rw [this]
    simp only [List.getElem_toArray, List.getElem_map, List.getElem_range]
    rw [decide_eq_decide]
    exact ⟨fun h => I.lt i h, hin i⟩

theorem allocs_run {ops : Array Oper} {q : Nat → Bool} {lb : List Oper} {k : List Item} {R : AV → Hp → Prop} : ∀ (la : List Oper) (n : Nat) (env : Env) (H : Hp), (∀ o ∈ la, (∃ t, o.op = .alloc t) ∧ o.guard = none ∧ ∃ s, o.dst = some s) → runD C ops q n (la ++ lb) k env H R →
    ∃ Z : List (List PV), Z.length = la.length ∧ (∀ (i : Nat) o t, la[i]? = some o → o.op = .alloc t → ∃ z, Z[i]? = some z ∧ azero C.P t = some z ∧ dstOK C.nt o.dst = true) ∧
      runD C ops q (n + la.length) lb k (puts la ((List.range la.length).map fun j => .ptr (H.n + j) 0) env) (app H (Z.map fun z => .cells (z.map .p))) R
  | [], n, env, H, _, h => ⟨[], rfl, fun i o t h1 => by simp at h1, h⟩
  | o :: la, n, env, H, ho, h => by
    obtain ⟨⟨t, ht⟩, hg, s, hs⟩ := ho o (by simp)
    rw [List.cons_append] at h
    unfold runD at h
    rw [hg, show wantedA C.nt ops none env = some true from rfl] at h
    simp only [ht, stepOp] at h
    cases hz : azero C.P t with
    | none => rw [hz] at h; exact h.elim
    | some z =>
      rw [hz] at h
      obtain ⟨h1, _, h2⟩ := h
      obtain ⟨Z, z1, z2, z3⟩ := allocs_run la (n + 1) _ _ (fun o' ho' => ho o' (by simp [ho'])) h2
      refine ⟨z :: Z, by simp [z1], fun i o' t' hi ht' => ?_, ?_⟩
      · cases i with
        | zero => simp at hi; subst hi; rw [ht] at ht'; cases ht'; exact ⟨z, rfl, hz, h1⟩
        | succ i => simp only [List.getElem?_cons_succ] at hi ⊢; exact z2 i o' t' hi ht'
      · rw [List.length_cons, List.range_succ_eq_map, List.map_cons, List.map_map, List.map_cons, app_cons]
        simp only [puts]
        rw [show n + (la.length + 1) = n + 1 + la.length by omega]
        rw [n_new'] at z3
        have : ((fun j => AV.ptr (H.n + j) 0) ∘ Nat.succ) = fun j => AV.ptr (H.n + 1 + j) 0 := by
          funext j; simp only [Function.comp]; rw [show H.n + j.succ = H.n + 1 + j by omega]
        rw [this]
        exact z3
end phase

section openE
variable {C : Cx} {k : List Item} {env : Env} {H : Hp} {R : AV → Hp → Prop}

/-- A region whose order is open: first quiet operations and rows of its own, in any order, then the rest. -/
theorem ARun.openE {id : Nat} {l : List Oper} (p1 p : Nat) (loud : List Nat) (hm : C.P.follows .mixedOrders = true) (hok : okE l.toArray p1 p = true)
    (hB : lexQ (isLoud loud) l.toArray (l.length - p) p ((List.range l.length).map fun i => decide (i < p)).toArray = true)
    (h : runE C l.toArray (l.take p1) env H fun env1 => runD C l.toArray (isLoud loud) p1 (l.drop p1) k env1 H R) : ARun C (.code (.region id l.toArray true) :: k) env H R :=
  .of_wp fun σ w a m hpre => by
    obtain ⟨X, hX, hK, hop⟩ := runE_vals h
    have hokE := okE_spec hok
    have hle := hokE.le
    have hpl : p ≤ l.length := by simpa using hokE.size
    rw [List.length_take, Nat.min_eq_left (by omega)] at hX
    have hdrop : l.drop p1 = (l.drop p1).take (p - p1) ++ l.drop p := by
      conv => lhs; rw [← List.take_append_drop (p - p1) (l.drop p1)]
      rw [List.drop_drop, show p1 + (p - p1) = p by omega]
    have hgd : ∀ (i : Nat) o, ((l.drop p1).take (p - p1))[i]? = some o → i < p - p1 ∧ l[p1 + i]? = some o := fun i o hi => by
      have hlt : i < p - p1 := by have := (List.getElem?_eq_some_iff.1 hi).1; simp at this; omega
      rw [List.getElem?_take_of_lt hlt, List.getElem?_drop] at hi
      exact ⟨hlt, hi⟩
    have hlen : ((l.drop p1).take (p - p1)).length = p - p1 := by rw [List.length_take, List.length_drop]; omega
    rw [hdrop] at hK
    obtain ⟨Z, z1, z2, z3⟩ := allocs_run _ p1 _ H (fun o ho => by
      obtain ⟨i, hi⟩ := List.getElem?_of_mem ho
      obtain ⟨h1, h2⟩ := hgd i o hi
      exact hokE.alloc (p1 + i) o (by simpa using h2) (by omega) (by omega)) hK
    rw [hlen] at z1 z3
    have hop' : ∀ (i : Nat) o x, i < p1 → l[i]? = some o → X[i]? = some x → OpOK C l.toArray o (puts (l.take i) (X.take i) env) H x := fun i o x hi ho hx => by
      have := hop i o x (by rw [List.getElem?_take_of_lt hi]; exact ho) hx
      rwa [List.take_take, Nat.min_eq_left (by omega)] at this
    obtain ⟨g1, g2⟩ := rel_drew hpre.rel
    refine wpIn_region_any hm ?_
    rw [List.size_toArray]
    have hZ : (List.range (p - p1)).map (fun j => AB.cells (((fun i => (Z[i - p1]?).getD []) (p1 + j)).map .p)) = Z.map fun z => .cells (z.map .p) := by
      refine List.ext_getElem (by simp [z1]) fun i h1 h2 => ?_
      simp only [List.length_map, List.length_range] at h1 h2
      simp [h2]
    have key := phase1 (C := C) (l := l) (p1 := p1) (p := p) (X := X) (zs := fun i => (Z[i - p1]?).getD []) (env0 := env) (H := H) (σs := σ) (ws := w) (m := m) (ro := C.round.map σ.c)
      (R1 := fun e a' w' => e = .normal ∧ ∃ env' H' σ', ARun C k env' H' R ∧ Pre C σ' H' w' env' a' m ∧ Ev H.n σ H w σ' H' w') hokE hop' hX
      (fun i o t h1 h2 ho ht => by
        obtain ⟨z, q1, q2, q3⟩ := z2 (i - p1) o t (by rw [List.getElem?_take_of_lt (by omega), List.getElem?_drop, show p1 + (i - p1) = i by omega]; exact ho) ht
        exact ⟨by rw [q1]; exact q2, q3⟩)
      (fun tr E T listed σ1 w1 a1 I => by
        obtain ⟨σ2, r1, r2, r3, r4⟩ := phase1_end hokE (fun i o x h1 h2 h3 => (hop' i o x h1 h2 h3).2.1) hX (fun s => (hpre.fr.slot s).belowN) hpre.rel.bel I
        rw [hZ] at r1 r2 r3
        subst r4
        have hrun : runD C l.toArray (isLoud loud) p (l.drop p) k (puts (l.take p) (X ++ (List.range (p - p1)).map fun j => .ptr (H.n + j) 0) env) (app H (Z.map fun z => .cells (z.map .p))) R := by
          have e : l.take p = l.take p1 ++ (l.drop p1).take (p - p1) := by
            conv => lhs; rw [show p = p1 + (p - p1) by omega, List.take_add]
          rw [e, puts_append (by rw [hX, List.length_take]; omega)]
          rw [show p1 + (p - p1) = p by omega] at z3
          exact z3
        have hla : ∀ j, (l.drop p)[j]? = l.toArray[p + j]? := fun j => by rw [List.getElem?_drop]; simp
        have hA := anyA_lex (C := C) (ops := l.toArray) (Q := fun env' H' => ARun C k env' H' R) (l.drop p) p _ _ _ hla (by rw [List.length_drop]; exact hB) (lexL_of_runD hla hrun)
        rw [List.length_drop] at hA
        exact anyA_sound (n1 := H.n) (m := m) (l.length - p) _ _ _ σ2 w1 a1 hA r1 r2 (by rw [app_n']; omega) fun env' H' σ' w' a' b1 b2 b3 b4 => ⟨rfl, env', H', σ', b1, hpre.go b2 b3 (r3.trans b4 (Nat.le_refl _)), r3.trans b4 (Nat.le_refl _)⟩)
      p [] (List.range p) [] [] (Array.replicate l.length false) σ w.drew a (by simp)
      ⟨List.nodup_nil, List.nodup_range, fun i => by simp, fun i h => by simp at h, fun i x h => by simp at h, fun i x h => by simp at h, List.nodup_nil, fun i => by simp, rfl, fun k o _ hk => by simp at hk, by simp, fun i hi => by simp [Array.getD_eq_getD_getElem?, hi], g1, hpre.fr.mono g2, g2⟩
    rw [show p + (l.length - p) = l.length by omega] at key
    exact key
end openE


section steps
variable {C : Cx} {ops : Array Oper} {q : Nat → Bool} {op : Op} {ty : TypeId} {pos : String} {after : Array Edge} {dst : Option Nat} {rest l2 : List Oper} {k : List Item} {env : Env} {H : Hp} {R : AV → Hp → Prop} {x : AV} {rd : Bool} {f : FuncId} {args : List AV} {j n p : Nat} {want : Bool}

/-- The quiet operations l, then the rest l2 in the text's order. -/
def runQ (C : Cx) (ops : Array Oper) (q : Nat → Bool) (l : List Oper) (p : Nat) (l2 : List Oper) (k : List Item) (env : Env) (H : Hp) (R : AV → Hp → Prop) : Prop :=
  runE C ops l env H fun env1 => runD C ops q p l2 k env1 H R
def CallQE (C : Cx) (ops : Array Oper) (q : Nat → Bool) (f : FuncId) (args : List AV) (dst : Option Nat) (l : List Oper) (p : Nat) (l2 : List Oper) (k : List Item) (env : Env) (H : Hp) (R : AV → Hp → Prop) : Prop :=
  CallE C f args H fun x => runQ C ops q l p l2 k (env.put dst x) H R
def stepQ (C : Cx) (ops : Array Oper) (q : Nat → Bool) (r : SRes) (rd : Bool) (dst : Option Nat) (l : List Oper) (p : Nat) (l2 : List Oper) (k : List Item) (env : Env) (H : Hp) (R : AV → Hp → Prop) : Prop :=
  stepE C r rd dst H fun x => runQ C ops q l p l2 k (env.put dst x) H R
def guardedQ (C : Cx) (ops : Array Oper) (q : Nat → Bool) (g : Option Bool) (op : Op) (ty : TypeId) (dst : Option Nat) (l : List Oper) (p : Nat) (l2 : List Oper) (k : List Item) (env : Env) (H : Hp) (R : AV → Hp → Prop) : Prop :=
  match g with
  | some true => stepQ C ops q (stepOp C.P C.G op ty env H) (readOp op) dst l p l2 k env H R
  | some false => dstOK C.nt dst = true ∧ runQ C ops q l p l2 k (env.put dst (.tup [])) H R
  | none => False

theorem runQ_nil : runQ C ops q [] p l2 k env H R = runD C ops q p l2 k env H R := rfl
theorem runQ_none : runQ C ops q (⟨dst, op, ty, pos, after, none⟩ :: rest) p l2 k env H R = stepQ C ops q (stepOp C.P C.G op ty env H) (readOp op) dst rest p l2 k env H R := rfl
theorem runQ_some : runQ C ops q (⟨dst, op, ty, pos, after, some (j, want)⟩ :: rest) p l2 k env H R = guardedQ C ops q (wantedA C.nt ops (some (j, want)) env) op ty dst rest p l2 k env H R := rfl
theorem guardedQ_true : guardedQ C ops q (some true) op ty dst rest p l2 k env H R = stepQ C ops q (stepOp C.P C.G op ty env H) (readOp op) dst rest p l2 k env H R := rfl
theorem guardedQ_false : guardedQ C ops q (some false) op ty dst rest p l2 k env H R = (dstOK C.nt dst = true ∧ runQ C ops q rest p l2 k (env.put dst (.tup [])) H R) := rfl
theorem stepQ_val : stepQ C ops q (.val x H) rd dst rest p l2 k env H R = (dstOK C.nt dst = true ∧ rd = true ∧ BelowN H.n x ∧ runQ C ops q rest p l2 k (env.put dst x) H R) := by simp [stepQ, stepE]
theorem stepQ_call : stepQ C ops q (.call f args) rd dst rest p l2 k env H R = (dstOK C.nt dst = true ∧ CallQE C ops q f (callArgs C.raw f args) dst rest p l2 k env H R) := rfl
theorem below_p {v : PV} : BelowN n (.p v) = True := eq_true (.p v)
theorem below_ip {sz i sub : Nat} {xs : List PV} : BelowN n (.ip sz xs i sub) = True := eq_true (.ip _ _ _ _)
theorem below_ptr {b off : Nat} (h : b < n) : BelowN n (.ptr b off) = True := eq_true (.ptr b off h)
theorem below_ref {b off len sz : Nat} (h : b < n) : BelowN n (.ref b off len sz) = True := eq_true (.ref b off len sz h)
theorem below_sl {a v sz : Nat} {xs : List PV} (h : a < n) : BelowN n (.sl a v sz xs) = True := eq_true (.sl a v sz xs h)
theorem below_tup0 : BelowN n (.tup []) = True := eq_true (.tup _ (by simp))

theorem CallQE.of {args' : List AV} (h : ∀ (H' : Hp) (R : AV → Hp → Prop), R x H' → ACall C.P C.G f args' H' R) (hb : BelowN H.n x) (hk : runQ C ops q rest p l2 k (env.put dst x) H R) : CallQE C ops q f args' dst rest p l2 k env H R := ⟨x, fun T => h _ _ ⟨rfl, rfl⟩, hb, hk⟩

theorem ARun.openQ {id : Nat} {l : List Oper} (p1 p : Nat) (loud : List Nat) (hm : C.P.follows .mixedOrders = true) (hok : okE l.toArray p1 p = true)
    (hB : lexQ (isLoud loud) l.toArray (l.length - p) p ((List.range l.length).map fun i => decide (i < p)).toArray = true)
    (h : runQ C l.toArray (isLoud loud) (l.take p1) p1 (l.drop p1) k env H R) : ARun C (.code (.region id l.toArray true) :: k) env H R := .openE p1 p loud hm hok hB h
end steps

attribute [go_sem] runQ_nil runQ_none runQ_some guardedQ_true guardedQ_false stepQ_val stepQ_call below_p below_ip below_ptr below_ref below_sl below_tup0 readOp List.take_zero List.take_nil List.take_succ_cons List.drop_zero List.drop_succ_cons

end Go.AL
