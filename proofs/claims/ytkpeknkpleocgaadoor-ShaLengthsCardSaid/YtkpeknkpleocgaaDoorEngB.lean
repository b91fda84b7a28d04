/-
  Running code on abstract states: what a rest of code and a call come to; rules for control, loops, regions and calls.
  Conditions: none; nothing here speaks of one program.
-/
import Derived.Test.YtkpeknkpleocgaaDoorEngA
import Derived.TacticsIn
import Derived.RangeFuncRecord
set_option linter.unusedSimpArgs false
set_option linter.unusedVariables false
namespace Go.AL
open Go

abbrev Env := Nat → AV

def Env.put (env : Env) (d : Option Nat) (x : AV) : Env :=
  match d with
  | some d => fun i => if i = d then x else env i
  | none => env

/-- The fixed things of one function's run: the program, its variables, the function, how many slots it has, how many names there were when it began, the functions that are handed slices with their room; of a round of a loop over a function: the name of the loop's record. -/
structure Cx where
  P : Program
  G : Globs
  fid : FuncId
  nt : Nat
  n0 : Nat
  raw : List Nat := []
  round : Option Nat := none

/-- The mark of a loop over a function, among the deferred calls. -/
def mark (r : Nat) : Deferred := { target := .collected r, args := #[] }

structure RelF (nt m : Nat) (σ : Gh) (H : Hp) (w : World) (env : Env) (a : Act) : Prop where
  defers : ∃ ms : List Nat, a.defers = ms.map mark ∧ ms.Nodup ∧ ∀ r ∈ ms, m ≤ r ∧ w.heap[r]? = some (.deferred (some [])) ∧ Free σ H r
  size : a.tmps.size = nt
  slot : ∀ i, RelV σ H w (env i) (a.tmps.getD i undef)

theorem RelF.mono {nt m : Nat} {σ σ' : Gh} {H H' : Hp} {w w' : World} {env a} (h : Ev H.n σ H w σ' H' w') (r : RelF nt m σ H w env a) : RelF nt m σ' H' w' env a :=
  ⟨let ⟨ms, q1, q2, q3⟩ := r.defers; ⟨ms, q1, q2, fun g hg => let ⟨p1, p2, p3⟩ := q3 g hg; let ⟨e1, e2⟩ := h.blk g (Array.getElem?_eq_some_iff.1 p2).1 p3; ⟨p1, e1.trans p2, e2⟩⟩, r.size, fun i => (r.slot i).mono h⟩

theorem RelF.put {nt m : Nat} {σ : Gh} {H : Hp} {w : World} {env a} {d : Option Nat} {x : AV} {v : Value} (r : RelF nt m σ H w env a) (hd : ∀ i, d = some i → i < nt) (hv : RelV σ H w x v) :
    RelF nt m σ H w (env.put d x) (a.put d v) := by
  cases d with
  | none => exact r
  | some d =>
    have hlt : d < a.tmps.size := by rw [r.size]; exact hd d rfl
    refine ⟨r.defers, by simp [Act.put, r.size], fun i => ?_⟩
    simp only [Env.put, Act.put]
    by_cases hi : i = d
    · subst hi
      rw [if_pos rfl]
      simpa [Array.getD_eq_getD_getElem?, hlt] using hv
    · rw [if_neg hi]
      have := r.slot i
      simpa [Array.getD_eq_getD_getElem?, Array.getElem?_setIfInBounds_ne (Ne.symm hi)] using this

/-- The state of a run: the frame, the world and what they read as. -/
structure Pre (C : Cx) (σ : Gh) (H : Hp) (w : World) (env : Env) (a : Act) (m : Nat) : Prop where
  rel : Rel C.G σ H w
  fr : RelF C.nt m σ H w env a
  n0 : C.n0 ≤ H.n
  m : m ≤ w.heap.size
  lt : ∀ l, C.round = some l → l < C.n0

structure Base (C : Cx) (σ : Gh) (b : Frame) (cs : List Frame) : Prop where
  fn : b.fn = C.fid
  kind : b.kind = .normal
  ro : b.roundOf = C.round.map σ.c
  cs : C.round.isSome = true → cs ≠ []

theorem round_eq {C : Cx} {σ σ' : Gh} {n : Nat} (hn : C.n0 ≤ n) (hc : ∀ b, b < n → σ'.c b = σ.c b) (hl : ∀ l, C.round = some l → l < C.n0) : C.round.map σ'.c = C.round.map σ.c := by
  cases h : C.round with
  | none => rfl
  | some l => simp only [Option.map_some]; rw [hc l (Nat.lt_of_lt_of_le (hl l h) hn)]

theorem Base.mono {C : Cx} {σ σ' : Gh} {b : Frame} {cs : List Frame} {n : Nat} (h : Base C σ b cs) (hn : C.n0 ≤ n) (hc : ∀ b, b < n → σ'.c b = σ.c b) (hl : ∀ l, C.round = some l → l < C.n0) : Base C σ' b cs :=
  ⟨h.fn, h.kind, by rw [round_eq hn hc hl]; exact h.ro, h.cs⟩

theorem Pre.go {C : Cx} {σ σ' : Gh} {H H' : Hp} {w w' : World} {env env' : Env} {a a' : Act} {m : Nat} (h : Pre C σ H w env a m) (hr : Rel C.G σ' H' w') (hf : RelF C.nt m σ' H' w' env' a') (hev : Ev H.n σ H w σ' H' w') : Pre C σ' H' w' env' a' m :=
  ⟨hr, hf, Nat.le_trans h.n0 hev.hn, Nat.le_trans h.m hev.size, h.lt⟩

/-- Where the run ends: the function leaves; of a round: its caller goes on. -/
def Fin (C : Cx) (cs : List Frame) (w' : World) (v : Value) (M : Machine) : Prop :=
  match C.round with
  | none => ∃ fr, M = lone fr cs w' ∧ fr.fn = C.fid ∧ fr.leaving C.P w' (.returned v)
  | some _ => ∃ c cs', cs = c :: cs' ∧ M = lone (c.finish v) cs' w'

/-- From this rest of code on, the function returns (the round ends) with R. -/
def ARun (C : Cx) (todo : List Item) (env : Env) (H : Hp) (R : AV → Hp → Prop) : Prop :=
  ∀ σ w a (b : Frame) cs m, Base C σ b cs → Pre C σ H w env a m →
    ∃ r H' σ' v w' M, R r H' ∧ Steps C.P (lone (b.atR a todo) cs w) M ∧ Fin C cs w' v M ∧ Rel C.G σ' H' w' ∧ RelV σ' H' w' r v ∧ EvM C.n0 m σ H w σ' H' w'

def ACall (P : Program) (G : Globs) (f : FuncId) (args : List AV) (H : Hp) (R : AV → Hp → Prop) : Prop :=
  ∀ σ w vs, Rel G σ H w → RelVs σ H w args vs →
    Calls P f vs w fun e w' => ∃ r H' σ' v, R r H' ∧ e = .returned v ∧ Rel G σ' H' w' ∧ RelV σ' H' w' r v ∧ Ev H.n σ H w σ' H' w'

/-- A call of the yield function of the loop whose record is b: one round. -/
def AYield (P : Program) (G : Globs) (b : Nat) (args : List AV) (H : Hp) (R : AV → Hp → Prop) : Prop :=
  ∀ σ w vs, Rel G σ H w → RelVs σ H w args vs → ∃ f tmps assign body, (Instr.yield (σ.c b) vs).run P w = .ok (.round (σ.c b) f tmps assign body) w ∧
    RoundIn Fence.wide 0 P (σ.c b) f tmps assign body w fun e w' => ∃ r H' σ' v, R r H' ∧ e = .returned v ∧ Rel G σ' H' w' ∧ RelV σ' H' w' r v ∧ Ev H.n σ H w σ' H' w'

theorem ACall.mono {P G f args H} {R R' : AV → Hp → Prop} (h : ACall P G f args H R) (hr : ∀ r H', R r H' → R' r H') : ACall P G f args H R' :=
  fun σ w vs a b => (h σ w vs a b).mono fun _ _ ⟨r, H', σ', v, q, rest⟩ => ⟨r, H', σ', v, hr _ _ q, rest⟩

theorem AYield.mono {P G b args H} {R R' : AV → Hp → Prop} (h : AYield P G b args H R) (hr : ∀ r H', R r H' → R' r H') : AYield P G b args H R' :=
  fun σ w vs h1 h2 => let ⟨f, t, x, y, q1, q2⟩ := h σ w vs h1 h2; ⟨f, t, x, y, q1, q2.mono fun _ _ ⟨r, H', σ', v, q, rest⟩ => ⟨r, H', σ', v, hr _ _ q, rest⟩⟩

theorem ARun.mono {C todo env H} {R R' : AV → Hp → Prop} (h : ARun C todo env H R) (hr : ∀ r H', R r H' → R' r H') : ARun C todo env H R' :=
  fun σ w a b cs m h1 h2 => let ⟨r, H', σ', v, w', M, q, rest⟩ := h σ w a b cs m h1 h2; ⟨r, H', σ', v, w', M, hr _ _ q, rest⟩

def env0 (args : List AV) : Env := fun i => (args[i]?).getD (.tup [])

theorem RelF.of_args {σ : Gh} {H : Hp} {w : World} {args : List AV} {vs : Array Value} {nt m : Nat} (hargs : RelVs σ H w args vs) (hle : args.length ≤ nt) :
    RelF nt m σ H w (env0 args) { tmps := vs ++ Array.replicate (nt - vs.size) undef, defers := [] } := by
  refine ⟨⟨[], rfl, List.nodup_nil, by simp⟩, by simp [hargs.1]; omega, fun i => ?_⟩
  have hs := hargs.1
  by_cases hi : i < args.length
  · have h1 : args[i]? = some args[i] := by simp [hi]
    have h2 : vs[i]? = some (vs[i]'(by omega)) := by simp [hs, hi]
    have h3 := hargs.2 i _ _ h1 h2
    simp only [env0, h1, Option.getD_some]
    have : (vs ++ Array.replicate (nt - vs.size) undef).getD i undef = vs[i]'(by omega) := by simp [Array.getD_eq_getD_getElem?, Array.getElem?_append, hs, hi]
    rw [this]; exact h3
  · have h1 : args[i]? = none := by simp; omega
    have h4 : (vs ++ Array.replicate (nt - vs.size) undef).getD i undef = undef := by
      simp [Array.getD_eq_getD_getElem?, Array.getElem?_append, hs, hi, Array.getElem?_replicate]
      split <;> rfl
    simp only [env0, h1, Option.getD_none, h4]
    exact .tup #[] rfl (by simp)

theorem ACall.of_run {P : Program} {G : Globs} {f : FuncId} {fn : Func} {c : Code} {args : List AV} {H : Hp} {R : AV → Hp → Prop} {nt : Nat} (hf : P.funcs[f]? = some fn) (hb : fn.body = some c)
    {raw : List Nat} (hnt : fn.ntmps = nt) (hle : args.length ≤ nt) (h : Bel H.n H → ARun ⟨P, G, f, nt, H.n, raw, none⟩ [.code c] (env0 args) H R) : ACall P G f args H R := by
  intro σ w vs hrel hargs cs
  let b : Frame := { (default : Frame) with fn := f, kind := .normal, roundOf := none }
  let a : Act := { tmps := vs ++ Array.replicate (fn.ntmps - vs.size) undef, defers := [] }
  have henter : Frame.enter P f vs .normal = b.atR a [.code c] := by simp [Frame.enter, Frame.atR, hf, hb, b, a]
  have hF : RelF nt w.heap.size σ H w (env0 args) a := by
    subst hnt
    exact .of_args hargs hle
  obtain ⟨r, H', σ', v, w', M, q, hst, ⟨fr, rfl, hfn, hlv⟩, hrel', hv, hev⟩ := h hrel.bel σ w a b cs w.heap.size ⟨rfl, rfl, rfl, fun h => by cases h⟩ ⟨hrel, hF, Nat.le_refl _, Nat.le_refl _, fun l h => by cases h⟩
  exact ⟨.returned v, w', fr, ⟨r, H', σ', v, q, rfl, hrel', hv, hev⟩, by rw [henter]; exact hst, hfn, hlv⟩

section control
variable {C : Cx} {k : List Item} {env : Env} {H : Hp} {R : AV → Hp → Prop}

theorem ARun.of_step {todo todo' : List Item} (hs : ∀ (b : Frame) (a : Act) cs w, step C.P (lone (b.atR a todo) cs w) = .next (lone (b.atR a todo') cs w)) (h : ARun C todo' env H R) : ARun C todo env H R :=
  fun σ w a b cs m h1 h2 => let ⟨r, H', σ', v, w', M, q, st, rest⟩ := h σ w a b cs m h1 h2; ⟨r, H', σ', v, w', M, q, .head (hs b a cs w) st, rest⟩

theorem ARun.skip (h : ARun C k env H R) : ARun C (.code .skip :: k) env H R := .of_step (fun _ _ _ _ => stepR_skip) h
theorem ARun.label {l : Nat} (h : ARun C k env H R) : ARun C (.code (.label l) :: k) env H R := .of_step (fun _ _ _ _ => stepR_label) h
theorem ARun.inBlock {id : Nat} (h : ARun C k env H R) : ARun C (.inBlock id :: k) env H R := .of_step (fun _ _ _ _ => stepR_inBlock) h
theorem ARun.seq {x y : Code} (h : ARun C (.code x :: .code y :: k) env H R) : ARun C (.code (.seq x y) :: k) env H R := .of_step (fun _ _ _ _ => stepR_seq) h
theorem ARun.block {id : Nat} {c : Code} (h : ARun C (.code c :: .inBlock id :: k) env H R) : ARun C (.code (.block id c) :: k) env H R := .of_step (fun _ _ _ _ => stepR_block) h
theorem ARun.loop {c : Code} (h : ARun C (.inLoop c :: k) env H R) : ARun C (.code (.loop c) :: k) env H R := by
  intro σ w a b cs m h1 h2
  obtain ⟨r, H', σ', v, w', M, q, ⟨n, hn⟩, hfin, rest⟩ := h σ w a b cs m h1 h2
  refine ⟨r, H', σ', v, w', M, q, ?_, hfin, rest⟩
  cases n with
  | zero =>
    simp only [runN] at hn
    injection hn with hn
    unfold Fin at hfin
    split at hfin
    · obtain ⟨fr, rfl, _, hm, _⟩ := hfin
      have := congrArg (fun m : Machine => (m.gs[0]?).map (·.frame.mode)) hn
      simp [lone, Frame.atR, hm] at this
    · obtain ⟨c1, cs', hcs, rfl⟩ := hfin
      have := congrArg (fun m : Machine => (m.gs[0]?).map (·.callers)) hn
      simp [lone, hcs] at this
  | succ n =>
    refine ⟨n + 1, ?_⟩
    simp only [runN] at hn ⊢
    rw [stepR_inLoop] at hn
    rw [stepR_loop]
    exact hn
theorem ARun.inLoop {c : Code} (h : ARun C (.code c :: .inLoop c :: k) env H R) : ARun C (.inLoop c :: k) env H R := .of_step (fun _ _ _ _ => stepR_inLoop) h
theorem ARun.exit {id : Nat} {k' : List Item} (hk : exitTo id k = some k') (h : ARun C k' env H R) : ARun C (.code (.exit id) :: k) env H R := .of_step (fun _ _ _ _ => stepR_exit hk) h
theorem ARun.goto {l : Nat} {k' : List Item} (hk : gotoIn l k = some k') (h : ARun C k' env H R) : ARun C (.code (.goto l) :: k) env H R := .of_step (fun _ _ _ _ => stepR_goto hk) h

/-- A loop, by a relation of its head's states and a measure. -/
theorem ARun.while {c : Code} (I : Env → Hp → Prop) (μ : Env → Hp → Nat) (h0 : I env H)
    (round : ∀ env H, I env H → (∀ env' H', I env' H' → μ env' H' < μ env H → ARun C (.inLoop c :: k) env' H' R) → ARun C (.code c :: .inLoop c :: k) env H R) :
    ARun C (.inLoop c :: k) env H R := by
  have key : ∀ n env H, μ env H = n → I env H → ARun C (.inLoop c :: k) env H R := by
    intro n
    induction n using Nat.strongRecOn with
    | _ n ih =>
      intro env H hn hI
      exact .inLoop (round env H hI fun env' H' hI' hlt => ih (μ env' H') (hn ▸ hlt) env' H' rfl hI')
  exact key _ env H rfl h0

theorem RelV.bool_inv {σ : Gh} {w : World} {t : Bool} {v : Value} (h : RelV σ H w (.p (.s (.bool t))) v) : v = .bool t := by
  cases h with | p h => cases h; rfl

def aconst : Value → AV
  | .agg cs => if cs.toList.all (·.oneCell') then .p (.agg (cs.toList.map .s)) else .top
  | .slice a l c => if a.isNone && l == 0 && c == 0 then .p (.sl true 0 []) else .p (.s (.slice a l c))
  | .tuple vs => if vs.size == 0 then .tup [] else .top
  | v => .p (.s v)

def aev (G : Globs) (env : Env) : Operand → AV
  | .tmp t => env t
  | .const v => aconst v
  | .global g => match G g with | some (sz, xs) => .ip sz xs 0 0 | none => .top
  | .func f => .clo f [] []

theorem aconst_rel {σ : Gh} {w : World} (v : Value) : RelV σ H w (aconst v) v := by
  cases v
  case agg cs =>
    simp only [aconst]
    split
    · rename_i ha
      have h1 : ∀ (i : Nat) v, cs[i]? = some v → v.oneCell' = true := fun i v hv => List.all_eq_true.1 ha v (List.mem_of_getElem? (by simpa using hv))
      refine .p (.agg _ _ (by simp) h1 fun i x v hx hv => ?_)
      have : cs.toList[i]? = some v := by simpa using hv
      simp only [List.getElem?_map, this, Option.map_some, Option.some.injEq] at hx
      subst hx; exact .s v (h1 i v hv)
    · exact .top _
  case slice a l c =>
    simp only [aconst]
    split
    · rename_i h
      simp only [Bool.and_eq_true, Option.isNone_iff_eq_none, beq_iff_eq] at h
      obtain ⟨⟨rfl, rfl⟩, rfl⟩ := h
      exact .p (.nil true 0)
    · exact .p (.s _ rfl)
  case tuple vs =>
    simp only [aconst]
    split
    · rename_i h
      have : vs = #[] := by simpa using h
      subst this
      exact .tup #[] rfl (by simp)
    · exact .top _
  all_goals exact .p (.s _ rfl)

theorem aev_rel {G : Globs} {σ : Gh} {w : World} {nt m : Nat} {a : Act} (hr : Rel G σ H w) (hf : RelF nt m σ H w env a) (x : Operand) : RelV σ H w (aev G env x) (a.eval x) := by
  cases x with
  | tmp t => exact hf.slot t
  | const v => exact aconst_rel v
  | global g =>
    simp only [aev]
    split
    · rename_i sz xs hg; exact hr.glob g sz xs hg
    · exact .top _
  | func f => exact .clo #[] #[] rfl rfl (by simp) (by simp)

theorem ARun.cond {c : Operand} {x y : Code} {t : Bool} (hc : aev C.G env c = .p (.s (.bool t))) (h : ARun C (.code (if t then x else y) :: k) env H R) : ARun C (.code (.cond c x y) :: k) env H R := by
  intro σ w a b cs m h1 h2
  have hv : a.eval c = .bool t := RelV.bool_inv (hc ▸ aev_rel h2.rel h2.fr c)
  obtain ⟨r, H', σ', v, w', M, q, st, rest⟩ := h σ w a b cs m h1 h2
  exact ⟨r, H', σ', v, w', M, q, .head (stepR_cond hv) st, rest⟩
end control

/-- The fence that bars nothing, in a function's frame or a round's. -/
abbrev Fr (C : Cx) (σ : Gh) : Fence := { Fence.wide with round := C.round.map σ.c }

theorem stepsFr {C : Cx} {σ : Gh} {P : Program} {m m' : Machine} (h : StepsIn (Machine.fenced P (Fr C σ)) P m m') : Steps P m m' := h.steps

/-- The operations l of a region, then the rest of code k. -/
def AOps (C : Cx) (ops : Array Oper) (l : List Oper) (k : List Item) (env : Env) (H : Hp) (R : AV → Hp → Prop) : Prop :=
  ∀ σ w a m, Pre C σ H w env a m →
    wpListIn (Fr C σ) 0 C.P ops (fun e a' w' => e = .normal ∧ ∃ env' H' σ', ARun C k env' H' R ∧ Pre C σ' H' w' env' a' m ∧ Ev H.n σ H w σ' H' w') l a w

section regions
variable {C : Cx} {k : List Item} {env : Env} {H : Hp} {R : AV → Hp → Prop} {ops : Array Oper} {o : Oper} {rest : List Oper}

theorem ARun.of_wp {c : Code}
    (h : ∀ σ w a m, Pre C σ H w env a m →
      c.wpIn (Fr C σ) 0 C.P (fun e a' w' => e = .normal ∧ ∃ env' H' σ', ARun C k env' H' R ∧ Pre C σ' H' w' env' a' m ∧ Ev H.n σ H w σ' H' w') a w) :
    ARun C (.code c :: k) env H R := by
  intro σ w a b cs m h1 h2
  obtain ⟨e, a', w', ⟨rfl, env', H', σ', hrun, hpre, hev⟩, harr⟩ := h σ w a m h2 b k cs h1.ro trivial (fun _ h => by simp [Fence.wide] at h)
  obtain ⟨r, H2, σ2, v, w2, M, q, st, hfin, hrel, hv, hev2⟩ := hrun σ' w' a' b cs m (h1.mono h2.n0 hev.c h2.lt) hpre
  exact ⟨r, H2, σ2, v, w2, M, q, Steps.trans (stepsFr harr) st, hfin, hrel, hv, hev.transM hev2 h2.n0 h2.m⟩

theorem ARun.region {id : Nat} {l : List Oper} (h : AOps C l.toArray l k env H R) : ARun C (.code (.region id l.toArray false) :: k) env H R :=
  .of_wp fun σ w a m h1 => wpIn_region_lit (h σ w a m h1)

theorem AOps.nil (h : ARun C k env H R) : AOps C ops [] k env H R :=
  fun _ _ _ _ h1 => ⟨rfl, env, H, _, h, h1, Ev.refl (Nat.le_refl _)⟩
end regions

end Go.AL
