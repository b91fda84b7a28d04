/-
  One operation's step on abstract values, a region's operations in the text's order, calls and returns.
  Conditions: none; nothing here speaks of one program.
-/
import Derived.Test.YtkpeknkpleocgaaDoorEngJ
import Derived.DeepKeys
set_option linter.unusedSimpArgs false
set_option linter.unusedVariables false
namespace Go.AL
open Go

inductive SRes where
  | val (x : AV) (H : Hp)
  | unit (H : Hp)
  | call (f : FuncId) (args : List AV)
  | yield (b : Nat) (args : List AV)
  | fail

def vH (x : Option AV) (H : Hp) : SRes := match x with | some x => .val x H | none => .fail
def vHH (x : Option (AV × Hp)) : SRes := match x with | some (x, H) => .val x H | none => .fail
def uH (x : Option Hp) : SRes := match x with | some H => .unit H | none => .fail

def aconstT (P : Program) (t : TypeId) (v : Value) : AV :=
  match v with
  | .slice a l c => if a.isNone && l == 0 && c == 0 then (match P.underlying t with | some (.slice e) => .p (.sl true (P.cellsOf e) []) | _ => .p (.sl true 0 [])) else .p (.s (.slice a l c))
  | v => aconst v

def aevT (P : Program) (G : Globs) (env : Env) (t : TypeId) (x : Operand) : AV :=
  match x with
  | .const v => aconstT P t v
  | x => aev G env x

def aargs (P : Program) (G : Globs) (env : Env) : List Operand → List TypeId → List AV
  | [], _ => []
  | x :: xs, [] => aev G env x :: aargs P G env xs []
  | x :: xs, t :: ts => aevT P G env t x :: aargs P G env xs ts

def aparts (G : Globs) (env : Env) : List (Nat × Operand) → List (Nat × AV)
  | [] => []
  | (i, x) :: r => (i, aev G env x) :: aparts G env r

def alist (G : Globs) (env : Env) : List Operand → List AV
  | [] => []
  | x :: r => aev G env x :: alist G env r

def enters (P : Program) (f : FuncId) : Bool := match P.funcs[f]? with | some fn => fn.body.isSome && !(fn.name == "runtime.NumGoroutine") | none => false

/-- The plain values of a row of one-cell data. -/
def pvVals : List PV → Option (List Value)
  | [] => some []
  | .s v :: xs => (pvVals xs).map (v :: ·)
  | _ => none

open Classical in
/-- Two structs or arrays of scalars compared. -/
noncomputable def aggEq (P : Program) (t : TypeId) (xs ys : List PV) : Option Bool :=
  if P.keyTypeAt 64 t && !P.eqGuardType P.depth t && isAggT P t then
    match pvVals xs, pvVals ys with
    | some a, some b => match P.keyLits 64 t a, P.keyLits 64 t b with
      | some la, some lb => some (decide (la = lb))
      | _, _ => none
    | _, _ => none
  else none

theorem pvVals_eq {w : World} {S : Nat → Nat → Prop} : ∀ {xs : List PV} {a vs : List Value}, pvVals xs = some a → vs.length = xs.length → (∀ (i : Nat) x v, xs[i]? = some x → vs[i]? = some v → RelP w S x v) → vs = a
  | [], a, vs, h, hl, _ => by simp only [pvVals, Option.some.injEq] at h; subst h; simpa using hl
  | x :: xs, a, vs, h, hl, hr => by
    cases x <;> simp only [pvVals, Option.map_eq_some_iff] at h
    case s v =>
      obtain ⟨a', h', rfl⟩ := h
      cases vs with
      | nil => simp at hl
      | cons u us =>
        have h0 := hr 0 _ _ rfl rfl
        cases h0
        exact congrArg _ (pvVals_eq h' (by simpa using hl) (fun i x v e1 e2 => hr (i + 1) x v (by simpa using e1) (by simpa using e2)))
    all_goals cases h

theorem keyLits_len {P : Program} {t : TypeId} {d : Nat} {cs : List Value} {l : List Lit} (ht : isAggT P t = true) (h : P.keyLits d t cs = some l) : cs.length = P.cellsOf t ∧ ((∃ n e, P.underlying t = some (.array n e)) ∨ ∃ fs, P.underlying t = some (.struct fs)) := by
  cases d with
  | zero => simp [Program.keyLits] at h
  | succ d =>
    unfold isAggT at ht
    split at ht
    case h_2 => cases ht
    rename_i k hk
    cases k <;> simp [isAggD] at ht
    · rename_i n e
      unfold Program.keyLits at h
      simp only [hk] at h
      split at h
      · rename_i hl; exact ⟨hl, .inl ⟨n, e, hk⟩⟩
      · cases h
    · rename_i fs
      unfold Program.keyLits at h
      simp only [hk] at h
      split at h
      · rename_i hl; exact ⟨hl.1, .inr ⟨fs, hk⟩⟩
      · cases h

open Classical in
theorem aggEq_run {P : Program} {t : TypeId} {xs ys : List PV} {r : Bool} {w : World} {S : Nat → Nat → Prop} {vx vy : Value} (h : aggEq P t xs ys = some r) (hx : RelP w S (.agg xs) vx) (hy : RelP w S (.agg ys) vy) (op : BinOp) (xo yo : Operand) :
    (eqGuard op t xo yo vx vy).run P w = .ok () w ∧ (Op.equal t vx vy).run P w = .ok r w ∧ (∃ vs, vx = .agg vs) ∧ ∃ us, vy = .agg us := by
  cases hx with | agg _ vs hl _ hr =>
  cases hy with | agg _ us hl' _ hr' =>
  unfold aggEq at h
  split at h
  case isFalse => cases h
  rename_i hc
  simp only [Bool.and_eq_true, Bool.not_eq_true'] at hc
  obtain ⟨⟨hk, hg⟩, ha⟩ := hc
  split at h
  case h_2 => cases h
  rename_i a b e1 e2
  split at h
  case h_2 => cases h
  rename_i la lb f1 f2
  cases h
  have q1 : vs.toList = a := pvVals_eq e1 (by simpa using hl) (fun i x v e e' => hr i x v e (by simpa using e'))
  have q2 : us.toList = b := pvVals_eq e2 (by simpa using hl') (fun i x v e e' => hr' i x v e (by simpa using e'))
  obtain ⟨g1, g2⟩ := keyLits_len ha f1
  obtain ⟨g3, _⟩ := keyLits_len ha f2
  have fm : ∀ {ws : Array Value}, ws.size = P.cellsOf t → (Value.agg ws).formed P t = true := fun hs => by
    rcases g2 with ⟨n, e, hu⟩ | ⟨fs, hu⟩ <;> simp [Value.formed, hu, hs]
  have fx := fm (ws := vs) (by rw [← Array.length_toList, q1, g1])
  have fy := fm (ws := us) (by rw [← Array.length_toList, q2, g3])
  refine ⟨?_, ?_, ⟨vs, rfl⟩, us, rfl⟩
  · unfold eqGuard
    cases op <;> simp [hg]
  · obtain ⟨r, hr, hiff⟩ := run_equalIn_deep 9936 64 t hk w 64 64 (.agg vs) (.agg us) la lb fx fy (by simpa [Value.cells, q1] using f1) (by simpa [Value.cells, q2] using f2)
    by_cases he : la = lb
    · rw [decide_eq_true he, ← hiff.2 he]; exact hr
    · cases r with
      | false => rw [decide_eq_false he]; exact hr
      | true => exact absurd (hiff.1 rfl) he

noncomputable def aBin (P : Program) (op : BinOp) (t : TypeId) (x y : AV) : Option AV :=
  match x, y with
  | .p (.s a), .p (.s b) => (vBin P op t a b).map fun v => .p (.s v)
  | .p (.agg xs), .p (.agg ys) => match op with
    | .eql => (aggEq P t xs ys).map fun r => .p (.s (.bool r))
    | .neq => (aggEq P t xs ys).map fun r => .p (.s (.bool !r))
    | _ => none
  | _, _ => none

def aUn (op : UnOp) (x : AV) : Option AV :=
  match x with
  | .p (.s a) => (vUn op a).map fun v => .p (.s v)
  | _ => none

def aConv (P : Program) (H : Hp) (s d : TypeId) (x : AV) : Option AV :=
  match P.underlying s, P.underlying d with
  | some (.slice _), some .string => aBytesStr P H s d x
  | some .string, some (.slice _) => aStrBytes P s d x
  | _, _ => if (P.underlying s).isSome then (match x with | .p (.s a) => (vConv P d a).map fun v => .p (.s v) | _ => none) else none

def aMinMax (big : Bool) (x y : AV) : Option AV :=
  match x, y with
  | .p (.s (.int k a)), .p (.s (.int k' b)) => if k = k' then some (.p (.s (.int k (if big then max a b else min a b)))) else none
  | _, _ => none

def isIface (P : Program) (t : TypeId) : Bool := match P.underlying t with | some (.interface _) | none => true | _ => false

def aNil (x : AV) : Option AV :=
  match x with
  | .ptr b off => some (.ptr b off)
  | .ip sz xs i sub => some (.ip sz xs i sub)
  | .clo f a c => some (.clo f a c)
  | _ => none

def stepBuiltin (P : Program) (G : Globs) (env : Env) (H : Hp) (b : Builtin) (args : List Operand) (ts : List TypeId) : SRes :=
  match b, args, ts with
  | .len, [x], [t] => vH (aLen P t (aev G env x)) H
  | .append, [s, x], [t, u] => vHH (aAppend P H t u (aevT P G env t s) (aevT P G env u x))
  | .copy, [d, s], [t, _] => vHH (aCopy P H t (aev G env d) (aev G env s))
  | .min, [x, y], _ => vH (aMinMax false (aev G env x) (aev G env y)) H
  | .max, [x, y], _ => vH (aMinMax true (aev G env x) (aev G env y)) H
  | _, _, _ => .fail

def stepCall (P : Program) (G : Globs) (env : Env) (c : Call) (f : AV) : SRes :=
  match f with
  | .clo fn first captured => if enters P fn then .call fn (first ++ aargs P G env c.args.toList c.argTypes.toList ++ captured) else .fail
  | .yld b => .yield b (aargs P G env c.args.toList c.argTypes.toList)
  | _ => .fail

noncomputable def stepOp (P : Program) (G : Globs) (op : Op) (ty : TypeId) (env : Env) (H : Hp) : SRes :=
  match op with
  | .move x => .val (aevT P G env ty x) H
  | .assign x => .val (aevT P G env ty x) H
  | .alloc t => match azero P t with | some ps => .val (.ptr H.n 0) (H.new (.cells (ps.map .p))) | none => .fail
  | .box _ x => match acells (aev G env x) with | some cs => .val (.ptr H.n 0) (H.new (.cells cs)) | none => .fail
  | .build t parts => vH (aBuild P t (aparts G env parts.toList)) H
  | .buildSlice t n parts => vHH (aBuildSlice P H t n (aparts G env parts.toList))
  | .load t a => vH (aLoad P H t (aev G env a)) H
  | .store t a x => uH (aStore P H t (aev G env a) (aevT P G env t x))
  | .nilCheck x => vH (aNil (aev G env x)) H
  | .binOp op t x y _ => vH (aBin P op t (aev G env x) (aev G env y)) H
  | .unOp op _ x => vH (aUn op (aev G env x)) H
  | .convert s d x => vH (aConv P H s d (aev G env x)) H
  | .makeInterface t x => match aev G env x with | .p (.s v) => if isIface P t then .fail else .val (.p (.s (.iface t v))) H | _ => .fail
  | .makeFunc fn first captured => match fn with | .func f => .val (.clo f (alist G env first.toList) (alist G env captured.toList)) H | _ => .fail
  | .makeSlice t l c => match l with | .const (.int _ 0) => vHH (aMake0 P H t (aev G env l) (aev G env c)) | _ => vHH (aMake P H t (aev G env l) (aev G env c))
  | .slice t x lo hi mx => vH (aSlice P t (aev G env x) (lo.map (aev G env)) (hi.map (aev G env)) (mx.map (aev G env))) H
  | .fieldAddr s x f => vH (aFieldAddr P s (aev G env x) f) H
  | .field s x f => vH (aField P s (aev G env x) f) H
  | .indexAddr t x i => vH (aIndexAddr P t (aev G env x) (aev G env i)) H
  | .index t x i => vH (aIndex P t (aev G env x) (aev G env i)) H
  | .extract t i => match aev G env t with | .tup xs => vH xs[i]? H | _ => .fail
  | .pick c x y => match aev G env c with | .p (.s (.bool b)) => .val (if b then aevT P G env ty x else aevT P G env ty y) H | _ => .fail
  | .call c => match c.callee with
    | .value f => stepCall P G env c (aev G env f)
    | .builtin b => stepBuiltin P G env H b c.args.toList c.argTypes.toList
    | .invoke _ _ => .fail
  | _ => .fail

section sound
variable {P : Program} {G : Globs} {σ : Gh} {H : Hp} {w : World} {env : Env} {nt m : Nat} {a : Act}

theorem aconstT_rel {t : TypeId} (v : Value) : RelV σ H w (aconstT P t v) v := by
  cases v
  case slice ad l c =>
    simp only [aconstT]
    split
    · rename_i h
      simp only [Bool.and_eq_true, Option.isNone_iff_eq_none, beq_iff_eq] at h
      obtain ⟨⟨rfl, rfl⟩, rfl⟩ := h
      split <;> exact .p (.nil true _)
    · exact .p (.s _ rfl)
  all_goals (unfold aconstT; exact aconst_rel _)

theorem aevT_rel (hr : Rel G σ H w) (hf : RelF nt m σ H w env a) (t : TypeId) (x : Operand) : RelV σ H w (aevT P G env t x) (a.eval x) := by
  cases x with
  | const v => exact aconstT_rel v
  | tmp t => exact aev_rel hr hf (.tmp t)
  | global g => exact aev_rel hr hf (.global g)
  | func f => exact aev_rel hr hf (.func f)

theorem aargs_rel (hr : Rel G σ H w) (hf : RelF nt m σ H w env a) : ∀ (xs : List Operand) (ts : List TypeId), (aargs P G env xs ts).length = xs.length ∧ ∀ (i : Nat) x v, (aargs P G env xs ts)[i]? = some x → (xs.map a.eval)[i]? = some v → RelV σ H w x v
  | [], ts => by simp [aargs]
  | x :: xs, [] => by
    obtain ⟨h1, h2⟩ := aargs_rel hr hf xs []
    refine ⟨by simp [aargs, h1], fun i y v hy hv => ?_⟩
    cases i with
    | zero => simp [aargs] at hy hv; subst hy; subst hv; exact aev_rel hr hf x
    | succ i => simp only [aargs, List.getElem?_cons_succ, List.map_cons] at hy hv; exact h2 i y v hy hv
  | x :: xs, t :: ts => by
    obtain ⟨h1, h2⟩ := aargs_rel hr hf xs ts
    refine ⟨by simp [aargs, h1], fun i y v hy hv => ?_⟩
    cases i with
    | zero => simp [aargs] at hy hv; subst hy; subst hv; exact aevT_rel hr hf t x
    | succ i => simp only [aargs, List.getElem?_cons_succ, List.map_cons] at hy hv; exact h2 i y v hy hv

theorem aparts_rel (hr : Rel G σ H w) (hf : RelF nt m σ H w env a) : ∀ (ps : List (Nat × Operand)), (aparts G env ps).length = ps.length ∧ ∀ (k : Nat) i x j v, (aparts G env ps)[k]? = some (i, x) → (ps.map fun p => (p.1, a.eval p.2))[k]? = some (j, v) → j = i ∧ RelV σ H w x v
  | [] => by simp [aparts]
  | (i, x) :: ps => by
    obtain ⟨h1, h2⟩ := aparts_rel hr hf ps
    refine ⟨by simp [aparts, h1], fun k i' y j v hy hv => ?_⟩
    cases k with
    | zero =>
      simp [aparts] at hy hv
      obtain ⟨rfl, rfl⟩ := hy
      obtain ⟨rfl, rfl⟩ := hv
      exact ⟨rfl, aev_rel hr hf x⟩
    | succ k => simp only [aparts, List.getElem?_cons_succ, List.map_cons] at hy hv; exact h2 k i' y j v hy hv

theorem alist_rel (hr : Rel G σ H w) (hf : RelF nt m σ H w env a) : ∀ (xs : List Operand), (alist G env xs).length = xs.length ∧ ∀ (i : Nat) x v, (alist G env xs)[i]? = some x → (xs.map a.eval)[i]? = some v → RelV σ H w x v
  | [] => by simp [alist]
  | x :: xs => by
    obtain ⟨h1, h2⟩ := alist_rel hr hf xs
    refine ⟨by simp [alist, h1], fun i y v hy hv => ?_⟩
    cases i with
    | zero => simp [alist] at hy hv; subst hy; subst hv; exact aev_rel hr hf x
    | succ i => simp only [alist, List.getElem?_cons_succ, List.map_cons] at hy hv; exact h2 i y v hy hv

theorem optRel_map (hr : Rel G σ H w) (hf : RelF nt m σ H w env a) (x : Option Operand) : optRel σ H w (x.map (aev G env)) (x.map a.eval) := by
  cases x with
  | none => trivial
  | some x => exact aev_rel hr hf x

theorem enters_inv {f : FuncId} (h : enters P f = true) (vs : Array Value) (w : World) : (callFunc f vs).run P w = .ok (.enter f vs) w := by
  unfold enters at h
  split at h
  case h_2 => cases h
  rename_i fn hf
  simp only [Bool.and_eq_true, Bool.not_eq_true'] at h
  obtain ⟨h1, h2⟩ := h
  have h3 : ¬ fn.body = none := fun h => by simp [h] at h1
  have h4 : ¬ fn.name = "runtime.NumGoroutine" := by simpa using h2
  simp [callFunc, hf, h3, h4]

/-- What the machine's step must give. -/
def StepOK (P : Program) (G : Globs) (σ : Gh) (H : Hp) (w : World) (ex : Sem Next) : SRes → Prop
  | .val x H' => ∃ v w' σ', ex.run P w = .ok (.value v) w' ∧ RelV σ' H' w' x v ∧ Rel G σ' H' w' ∧ Ev H.n σ H w σ' H' w'
  | .unit H' => ∃ w' σ', ex.run P w = .ok .skip w' ∧ Rel G σ' H' w' ∧ Ev H.n σ H w σ' H' w'
  | .call f args => ∃ vs, ex.run P w = .ok (.enter f vs) w ∧ RelVs σ H w args vs
  | .yield b args => ∃ vs, RelVs σ H w args vs ∧ ∀ f t x y, (Instr.yield (σ.c b) vs).run P w = .ok (.round (σ.c b) f t x y) w → ex.run P w = .ok (.round (σ.c b) f t x y) w
  | .fail => True

theorem StepOK.read (hr : Rel G σ H w) {x : Option AV} {s : Sem Value} (h : ∀ y, x = some y → ∃ v, s.run P w = .ok v w ∧ RelV σ H w y v) : StepOK P G σ H w (do pure (.value (← s))) (vH x H) := by
  cases x with
  | none => trivial
  | some y =>
    obtain ⟨v, h1, h2⟩ := h y rfl
    exact ⟨v, w, σ, by simp [h1], h2, hr, Ev.refl (Nat.le_refl _)⟩

theorem StepOK.make {x : Option (AV × Hp)} {s : Sem Value} (h : ∀ y H', x = some (y, H') → ∃ v w' σ', s.run P w = .ok v w' ∧ RelV σ' H' w' y v ∧ Rel G σ' H' w' ∧ Ev H.n σ H w σ' H' w') : StepOK P G σ H w (do pure (.value (← s))) (vHH x) := by
  cases x with
  | none => trivial
  | some y =>
    obtain ⟨y, H'⟩ := y
    obtain ⟨v, w', σ', h1, h2⟩ := h y H' rfl
    exact ⟨v, w', σ', by simp [h1], h2⟩

theorem minMax_run {big : Bool} {X Y z : AV} {vx vy : Value} {ts : Array TypeId} {ty : TypeId} (h : aMinMax big X Y = some z) (h1 : RelV σ H w X vx) (h2 : RelV σ H w Y vy) :
    ∃ v, ((if big then Builtin.max_ else Builtin.min_) ts ty #[vx, vy]).run P w = .ok v w ∧ RelV σ H w z v := by
  unfold aMinMax at h
  split at h
  case h_2 => cases h
  rename_i k i k' j
  split at h
  case isFalse => cases h
  rename_i hk; subst hk
  cases h
  have h1' : vx = .int k i := by cases h1 with | p h => cases h; rfl
  have h2' : vy = .int k j := by cases h2 with | p h => cases h; rfl
  subst h1' h2'
  refine ⟨.int k (if big then max i j else min i j), ?_, .p (.s _ rfl)⟩
  cases big
  · simp [Builtin.min_, List.foldlM_cons, List.foldlM_nil, Builtin.min2]
    omega
  · simp [Builtin.max_, List.foldlM_cons, List.foldlM_nil, Builtin.max2]
    omega

theorem builtin_sound (hr : Rel G σ H w) (hf : RelF nt m σ H w env a) (b : Builtin) (args : Array Operand) (ts : Array TypeId) (ty : TypeId) (cs : Array Bool) :
    StepOK P G σ H w (builtin b ts ty cs (args.map a.eval)) (stepBuiltin P G env H b args.toList ts.toList) := by
  unfold stepBuiltin
  split
  · rename_i x t hx ht
    have hx' : args = #[x] := by simpa using congrArg List.toArray hx
    have ht' : ts = #[t] := by simpa using congrArg List.toArray ht
    subst hx'; subst ht'
    exact .read hr fun y hy => by simpa using aLen_run (ty := ty) hy (aev_rel hr hf x)
  · rename_i s x t u hx ht
    have hx' : args = #[s, x] := by simpa using congrArg List.toArray hx
    have ht' : ts = #[t, u] := by simpa using congrArg List.toArray ht
    subst hx'; subst ht'
    exact .make fun y H' hy => by simpa using aAppend_run (ty := ty) hr hy (aevT_rel hr hf t s) (aevT_rel hr hf u x)
  · rename_i d s t u hx ht
    have hx' : args = #[d, s] := by simpa using congrArg List.toArray hx
    have ht' : ts = #[t, u] := by simpa using congrArg List.toArray ht
    subst hx'; subst ht'
    exact .make fun y H' hy => by simpa using aCopy_run (u := u) (ty := ty) hr hy (aev_rel hr hf d) (aev_rel hr hf s)
  · rename_i x y hx
    have hx' : args = #[x, y] := by simpa using congrArg List.toArray hx
    subst hx'
    refine .read hr fun z hz => ?_
    have h1 := aev_rel hr hf x
    have h2 := aev_rel hr hf y
    generalize aev G env x = X at hz h1
    generalize aev G env y = Y at hz h2
    simp only [List.map_toArray, List.map_cons, List.map_nil]
    generalize a.eval x = vx at h1
    generalize a.eval y = vy at h2
    exact minMax_run (big := false) (ts := ts) (ty := ty) hz h1 h2
  · rename_i x y hx
    have hx' : args = #[x, y] := by simpa using congrArg List.toArray hx
    subst hx'
    refine .read hr fun z hz => ?_
    have h1 := aev_rel hr hf x
    have h2 := aev_rel hr hf y
    generalize aev G env x = X at hz h1
    generalize aev G env y = Y at hz h2
    simp only [List.map_toArray, List.map_cons, List.map_nil]
    generalize a.eval x = vx at h1
    generalize a.eval y = vy at h2
    exact minMax_run (big := true) (ts := ts) (ty := ty) hz h1 h2
  · trivial

theorem stepOp_sound (hr : Rel G σ H w) (hf : RelF nt m σ H w env a) (o : Oper) : StepOK P G σ H w (execOp a.eval o) (stepOp P G o.op o.type env H) := by
  obtain ⟨dst, op, ty, pos, after, guard⟩ := o
  cases op <;> simp only [stepOp, execOp] <;> try trivial
  case move x => exact ⟨_, w, σ, rfl, aevT_rel hr hf ty x, hr, Ev.refl (Nat.le_refl _)⟩
  case assign x => exact ⟨_, w, σ, rfl, aevT_rel hr hf ty x, hr, Ev.refl (Nat.le_refl _)⟩
  case alloc t =>
    split
    · rename_i ps hps
      obtain ⟨u, w', σ', h1, h2⟩ := alloc_run hr hps
      exact ⟨u, w', σ', by simp [h1], h2⟩
    · trivial
  case box t x =>
    split
    · rename_i cs hcs
      obtain ⟨u, w', σ', h1, h2⟩ := box_run (P := P) (e := t) hr hcs (aev_rel hr hf x)
      exact ⟨u, w', σ', by simp [h1], h2⟩
    · trivial
  case build t parts =>
    refine .read hr fun y hy => ?_
    obtain ⟨h1, h2⟩ := aparts_rel hr hf parts.toList
    exact aBuild_run hy (by simp [h1]) (fun k i x j v e1 e2 => h2 k i x j v e1 (by simpa using e2))
  case buildSlice t n parts =>
    refine .make fun y H' hy => ?_
    obtain ⟨h1, h2⟩ := aparts_rel hr hf parts.toList
    exact aBuildSlice_run hr hy (by simp [h1]) (fun k i x j v e1 e2 => h2 k i x j v e1 (by simpa using e2))
  case load t x => exact .read hr fun y hy => aLoad_run hr hy (aev_rel hr hf x)
  case store t x y =>
    cases h : aStore P H t (aev G env x) (aevT P G env t y) with
    | none => trivial
    | some H' =>
      obtain ⟨w', σ', h1, h2, h3⟩ := aStore_run hr h (aev_rel hr hf x) (aevT_rel hr hf t y)
      exact ⟨w', σ', by simp [h1], h2, h3⟩
  case nilCheck x =>
    have hx := aev_rel hr hf x
    cases h : aNil (aev G env x) with
    | none => trivial
    | some y =>
      unfold aNil at h
      split at h <;> cases h
      · rename_i b off e
        rw [e] at hx
        generalize a.eval x = v at hx ⊢
        cases hx with | ptr hb => exact ⟨_, w, σ, rfl, .ptr hb, hr, Ev.refl (Nat.le_refl _)⟩
      · rename_i sz xs i sub e
        rw [e] at hx
        generalize a.eval x = v at hx ⊢
        cases hx with | ip hp hi hs => exact ⟨_, w, σ, rfl, .ip hp hi hs, hr, Ev.refl (Nat.le_refl _)⟩
      · rename_i f p c e
        rw [e] at hx
        generalize a.eval x = v at hx ⊢
        cases hx with | clo fs cs q1 q2 q3 q4 => exact ⟨_, w, σ, rfl, .clo fs cs q1 q2 q3 q4, hr, Ev.refl (Nat.le_refl _)⟩
  case binOp op t x y t' =>
    refine .read hr fun z hz => ?_
    have h1 := aev_rel hr hf x
    have h2 := aev_rel hr hf y
    unfold aBin at hz
    split at hz
    case h_3 => cases hz
    case h_2 =>
      rename_i xs ys e1 e2
      rw [e1] at h1; rw [e2] at h2
      cases h1 with | p h1 =>
      cases h2 with | p h2 =>
      split at hz
      case h_3 => cases hz
      all_goals
        simp only [Option.map_eq_some_iff] at hz
        obtain ⟨r, hr1, rfl⟩ := hz
        refine ⟨_, ?_, .p (.s _ rfl)⟩
        rename_i hop
        obtain ⟨q1, q2, ⟨vs, q3⟩, us, q4⟩ := aggEq_run hr1 h1 h2 _ x y
        rw [q3, q4] at q1 q2 ⊢
        rw [Sem.run_bind, q1, Result.andThen_ok]
        simp only [binOp, Sem.run_bind, q2, Result.andThen_ok, Sem.run_pure]
    rename_i u v e1 e2
    rw [e1] at h1; rw [e2] at h2
    have h1' : a.eval x = u := by cases h1 with | p h => cases h; rfl
    have h2' : a.eval y = v := by cases h2 with | p h => cases h; rfl
    cases hv : vBin P op t u v with
    | none => simp [hv] at hz
    | some r =>
      simp only [hv, Option.map_some, Option.some.injEq] at hz
      subst hz
      rw [h1', h2']
      refine ⟨r, vBin_run hv x y w, .p (.s _ ?_)⟩
      unfold vBin at hv
      split at hv
      · split at hv
        · unfold vShift at hv; split at hv; · cases hv
          · split at hv <;> cases hv <;> rfl
        · split at hv
          · unfold vInt at hv
            split at hv <;> first | (cases hv; rfl) | (split at hv <;> cases hv; rfl) | (cases hv)
          · cases hv
      · unfold vStr at hv
        split at hv <;> first | (cases hv; rfl) | (split at hv <;> cases hv; rfl) | (cases hv)
      · split at hv
        · split at hv <;> cases hv <;> rfl
        · cases hv
      · cases hv
  case unOp op t x =>
    refine .read hr fun z hz => ?_
    have h1 := aev_rel hr hf x
    unfold aUn at hz
    split at hz
    case h_2 => cases hz
    rename_i u e1
    rw [e1] at h1
    have h1' : a.eval x = u := by cases h1 with | p h => cases h; rfl
    cases hv : vUn op u with
    | none => simp [hv] at hz
    | some r =>
      simp only [hv, Option.map_some, Option.some.injEq] at hz
      subst hz
      rw [h1']
      refine ⟨r, vUn_run hv w, .p (.s _ ?_)⟩
      unfold vUn at hv
      split at hv <;> cases hv <;> rfl
  case convert s d x =>
    have h1 := aev_rel hr hf x
    unfold aConv
    split
    · exact .read hr fun y hy => aBytesStr_run hr hy h1
    · cases h : aStrBytes P s d (aev G env x) with
      | none => trivial
      | some y =>
        obtain ⟨v, w', q1, q2, q3, q4⟩ := aStrBytes_run hr h h1
        exact ⟨v, w', σ, by simp [q1], q2, q3, q4⟩
    · refine .read hr fun z hz => ?_
      split at hz
      case isFalse => cases hz
      rename_i hs
      split at hz
      case h_2 => cases hz
      rename_i u e1
      rw [e1] at h1
      have h1' : a.eval x = u := by cases h1 with | p h => cases h; rfl
      cases hv : vConv P d u with
      | none => simp [hv] at hz
      | some r =>
        simp only [hv, Option.map_some, Option.some.injEq] at hz
        subst hz
        rw [h1']
        refine ⟨r, vConv_run hs hv w, .p (.s _ ?_)⟩
        unfold vConv at hv
        split at hv <;> cases hv <;> rfl
  case makeInterface t x =>
    have h1 := aev_rel hr hf x
    split
    · rename_i v e1
      split
      · trivial
      · rename_i hi
        rw [e1] at h1
        have h1' : a.eval x = v := by cases h1 with | p h => cases h; rfl
        unfold isIface at hi
        cases hu : P.underlying t with
        | none =>
          simp [hu] at hi
        | some d =>
          rw [hu] at hi
          refine ⟨.iface t v, w, σ, ?_, .p (.s _ rfl), hr, Ev.refl (Nat.le_refl _)⟩
          cases d <;> first | (simp at hi; done) | simp [Instr.makeInterface, run_underlying hu, h1']
    · trivial
  case makeFunc fn first captured =>
    split
    · rename_i f
      obtain ⟨l1, r1⟩ := alist_rel hr hf first.toList
      obtain ⟨l2, r2⟩ := alist_rel hr hf captured.toList
      exact ⟨.func (.func f) (first.map a.eval) (captured.map a.eval), w, σ, rfl, .clo _ _ (by simp [l1]) (by simp [l2]) (fun i x v e1 e2 => r1 i x v e1 (by simpa using e2)) (fun i x v e1 e2 => r2 i x v e1 (by simpa using e2)), hr, Ev.refl (Nat.le_refl _)⟩
    · trivial
  case makeSlice t l c =>
    split
    · exact .make fun y H' hy => aMake0_run hr hy (aev_rel hr hf _) (aev_rel hr hf c)
    · exact .make fun y H' hy => aMake_run hr hy (aev_rel hr hf l) (aev_rel hr hf c)
  case slice t x lo hi mx => exact .read hr fun y hy => aSlice_run hy (aev_rel hr hf x) (optRel_map hr hf lo) (optRel_map hr hf hi) (optRel_map hr hf mx)
  case fieldAddr s x f => exact .read hr fun y hy => aFieldAddr_run hy (aev_rel hr hf x)
  case field s x f => exact .read hr fun y hy => aField_run hy (aev_rel hr hf x)
  case indexAddr t x i => exact .read hr fun y hy => aIndexAddr_run hy (aev_rel hr hf x) (aev_rel hr hf i)
  case index t x i => exact .read hr fun y hy => aIndex_run hy (aev_rel hr hf x) (aev_rel hr hf i)
  case extract t i =>
    have h1 := aev_rel hr hf t
    split
    · rename_i xs e1
      rw [e1] at h1
      refine .read hr fun y hy => ?_
      generalize a.eval t = v at h1 ⊢
      cases h1 with | tup vs hl h =>
      have hlt : i < vs.size := by rw [hl]; exact (List.getElem?_eq_some_iff.1 hy).1
      exact ⟨vs[i], by simp [Instr.extract, hlt], h i y _ hy (by simp)⟩
    · trivial
  case pick c x y =>
    have h1 := aev_rel hr hf c
    split
    · rename_i b e1
      rw [e1] at h1
      generalize hv : a.eval c = v at h1 ⊢
      cases h1.bool_inv
      cases b
      · exact ⟨_, w, σ, rfl, aevT_rel hr hf ty y, hr, Ev.refl (Nat.le_refl _)⟩
      · exact ⟨_, w, σ, rfl, aevT_rel hr hf ty x, hr, Ev.refl (Nat.le_refl _)⟩
    · trivial
  case call c =>
    obtain ⟨callee, args, ts⟩ := c
    cases callee with
    | invoke r m => trivial
    | builtin b => exact builtin_sound hr hf b args ts ty _
    | value f =>
      have h1 := aev_rel hr hf f
      simp only [stepCall]
      split
      · rename_i fn first captured e1
        split
        · rename_i he
          rw [e1] at h1
          obtain ⟨l2, r2⟩ := aargs_rel (P := P) hr hf args.toList ts.toList
          generalize hv : a.eval f = v at h1
          cases h1 with | clo fs cs q1 q2 q3 q4 =>
          refine ⟨fs ++ args.map a.eval ++ cs, ?_, ?_, fun i x v e1 e2 => ?_⟩
          · simp only [resolve, hv, Deferred.ofValue, Sem.run_bind, Sem.run_pure, Result.andThen_ok, invoke]
            exact enters_inv he _ w
          · simp [q1, q2, l2]
          · rw [Array.getElem?_append] at e2
            simp only [Array.size_append, Array.size_map] at e2
            by_cases hi : i < fs.size + args.size
            · rw [if_pos hi] at e2
              rw [List.getElem?_append_left (by simp [l2, ← q1]; exact hi)] at e1
              rw [Array.getElem?_append] at e2
              by_cases hi2 : i < fs.size
              · rw [if_pos hi2] at e2
                rw [List.getElem?_append_left (by omega)] at e1
                exact q3 i x v e1 e2
              · rw [if_neg hi2] at e2
                rw [List.getElem?_append_right (by omega)] at e1
                rw [← q1] at e1
                exact r2 _ x v e1 (by simpa using e2)
            · rw [if_neg hi] at e2
              rw [List.getElem?_append_right (by simp [l2, ← q1]; omega)] at e1
              simp only [List.length_append, l2, ← q1, Array.length_toList] at e1
              exact q4 _ x v e1 e2
        · trivial
      · rename_i b e1
        rw [e1] at h1
        obtain ⟨l2, r2⟩ := aargs_rel (P := P) hr hf args.toList ts.toList
        generalize hv : a.eval f = v at h1
        cases h1 with | yld hb =>
        refine ⟨args.map a.eval, ⟨by simp [l2], fun i x v e1 e2 => r2 i x v e1 (by simpa using e2)⟩, fun f' t x y hy => ?_⟩
        simp only [resolve, hv, Deferred.ofValue, Sem.run_bind, Sem.run_pure, Result.andThen_ok, invoke]
        simpa using hy
      · trivial
end sound

theorem stepOp_noDefer {P : Program} {G : Globs} {op : Op} {ty : TypeId} {env : Env} {H : Hp} (h : stepOp P G op ty env H ≠ .fail) : ∀ c, op ≠ .defer c := by
  intro c e
  subst e
  exact h rfl

end Go.AL
