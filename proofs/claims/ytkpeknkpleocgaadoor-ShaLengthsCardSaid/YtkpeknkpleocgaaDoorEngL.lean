/-
  A region's operations run on abstract values, in the text's order and where the order is open; calls; returns.
  Conditions: none; nothing here speaks of one program.
-/
import Derived.Test.YtkpeknkpleocgaaDoorEngK
set_option linter.unusedSimpArgs false
set_option linter.unusedVariables false
namespace Go.AL
open Go

def dstOK (nt : Nat) (d : Option Nat) : Bool := match d with | some d => decide (d < nt) | none => true

def wantedA (nt : Nat) (ops : Array Oper) (g : Option (Nat × Bool)) (env : Env) : Option Bool :=
  match g with
  | none => some true
  | some (j, want) =>
    match (ops[j]?).bind (·.dst) with
    | some d => if d < nt then (match env d with | .p (.s (.bool t)) => some (t == want) | _ => none) else none
    | none => none

def callArgs (raw : List Nat) (f : FuncId) (args : List AV) : List AV := if raw.contains f then args else args.map AV.weak

def sOp (C : Cx) (dst : Option Nat) (H : Hp) (K : AV → Hp → Prop) : SRes → Prop
  | .val x H' => dstOK C.nt dst = true ∧ K x H'
  | .unit H' => dst = none ∧ K .top H'
  | .call f args => dstOK C.nt dst = true ∧ ACall C.P C.G f (callArgs C.raw f args) H K
  | .yield b args => dstOK C.nt dst = true ∧ AYield C.P C.G b (args.map AV.weak) H K
  | .fail => False

def aOp1 (C : Cx) (o : Oper) (env : Env) (H : Hp) (K : AV → Hp → Prop) : Prop := sOp C o.dst H K (stepOp C.P C.G o.op o.type env H)

theorem sOp.mono {C : Cx} {dst H} {K K' : AV → Hp → Prop} {r : SRes} (h : sOp C dst H K r) (hk : ∀ x H', K x H' → K' x H') : sOp C dst H K' r := by
  cases r with
  | val x H' => exact ⟨h.1, hk _ _ h.2⟩
  | unit H' => exact ⟨h.1, hk _ _ h.2⟩
  | call f args => exact ⟨h.1, h.2.mono hk⟩
  | yield b args => exact ⟨h.1, h.2.mono hk⟩
  | fail => exact h

theorem RelVs.weak {σ H w} {xs : List AV} {vs : Array Value} (h : RelVs σ H w xs vs) : RelVs σ H w (xs.map AV.weak) vs :=
  ⟨by simpa using h.1, fun i x v hx hv => by
    simp only [List.getElem?_map, Option.map_eq_some_iff] at hx
    obtain ⟨y, hy, rfl⟩ := hx
    exact (h.2 i y v hy hv).weak⟩

theorem callArgs_rel {σ H w} {raw f} {xs : List AV} {vs : Array Value} (h : RelVs σ H w xs vs) : RelVs σ H w (callArgs raw f xs) vs := by
  unfold callArgs
  split
  · exact h
  · exact h.weak

section
variable {C : Cx} {k : List Item} {env : Env} {H : Hp} {R : AV → Hp → Prop} {ops : Array Oper} {o : Oper} {rest : List Oper}

theorem dstOK_spec {nt : Nat} {d : Option Nat} (h : dstOK nt d = true) : ∀ i, d = some i → i < nt := fun i hi => by subst hi; simpa [dstOK] using h

/-- One operation's wp, from its step. -/
theorem aOp1.wp {K : AV → Hp → Prop} (h : aOp1 C o env H K) {σ : Gh} {w : World} {a : Act} {m : Nat} {ro : Option Nat} (hr : Rel C.G σ H w) (hf : RelF C.nt m σ H w env a) {N : Act → World → Prop} {Q : Exit → Act → World → Prop}
    (hN : ∀ x v H' σ' w', K x H' → (∀ i, o.dst = some i → i < C.nt) → Rel C.G σ' H' w' → RelV σ' H' w' x v → Ev H.n σ H w σ' H' w' → N (a.put o.dst v) w') : o.wpIn { Fence.wide with round := ro } 0 C.P a w N Q := by
  have hs := stepOp_sound (P := C.P) hr hf o
  unfold aOp1 at h
  unfold Oper.wpIn
  refine ⟨fun f _ => trivial, ?_⟩
  have hsem : Oper.semAt ro a.eval o = execOp a.eval o := Oper.semAt_eq _ _ _ (stepOp_noDefer (P := C.P) (G := C.G) (ty := o.type) (env := env) (H := H) fun hh => by rw [hh] at h; exact h)
  show o.uponIn _ _ _ _ _ _ ((Oper.semAt ro a.eval o).run C.P w)
  rw [hsem]
  generalize stepOp C.P C.G o.op o.type env H = r at h hs
  cases r with
  | val x H' =>
    obtain ⟨v, w', σ', hrun, hv, hrel, hev⟩ := hs
    rw [hrun]
    exact hN x v H' σ' w' h.2 (dstOK_spec h.1) hrel hv hev
  | unit H' =>
    obtain ⟨w', σ', hrun, hrel, hev⟩ := hs
    rw [hrun]
    exact hN .top undef H' σ' w' h.2 (by simp [h.1]) hrel (.top _) hev
  | call f args =>
    obtain ⟨vs, hrun, hvs⟩ := hs
    rw [hrun]
    refine ⟨fun h => (by cases h), (callsIn_wide (n := 0 - 1)).2 ((h.2 σ w vs hr (callArgs_rel hvs)).mono ?_)⟩
    rintro e w' ⟨x, H', σ', v, q, rfl, hrel, hv, hev⟩
    exact hN x v H' σ' w' q (dstOK_spec h.1) hrel hv hev
  | yield b args =>
    obtain ⟨vs, hvs, hrun⟩ := hs
    obtain ⟨f, t, x, y, q1, q2⟩ := h.2 σ w vs hr hvs.weak
    rw [hrun _ _ _ _ q1]
    refine ⟨fun h => (by cases h), q2.mono ?_⟩
    rintro e w' ⟨x, H', σ', v, q, rfl, hrel, hv, hev⟩
    exact hN x v H' σ' w' q (dstOK_spec h.1) hrel hv hev
  | fail => exact h.elim

theorem wantedA_spec {σ : Gh} {w : World} {a : Act} {m : Nat} {g : Option (Nat × Bool)} {t : Bool} (h : wantedA C.nt ops g env = some t) (hf : RelF C.nt m σ H w env a) (hg : o.guard = g) : Region.wanted o (yielded ops a.tmps) = t := by
  subst hg
  unfold wantedA at h
  split at h
  · rename_i hg; cases h; simp [Region.wanted, hg]
  · rename_i j want hg
    split at h
    case h_2 => cases h
    rename_i d hd
    split at h
    case isFalse => cases h
    rename_i hlt
    split at h
    case h_2 => cases h
    rename_i b he
    cases h
    have hv : a.tmps.getD d undef = .bool b := RelV.bool_inv (he ▸ hf.slot d)
    have hs : d < a.tmps.size := by rw [hf.size]; exact hlt
    have hv' : a.tmps[d]? = some (.bool b) := by simpa [Array.getD_eq_getD_getElem?, hs] using hv
    simp only [Region.wanted, hg, yielded, hd, Option.bind_some, hv']
    cases b <;> cases want <;> rfl

/-- The rest of a region's operations behind a call of a loop's yield function. -/
def YieldK (C : Cx) (ops : Array Oper) (b : Nat) (args : List AV) (dst : Option Nat) (rest : List Oper) (k : List Item) (env : Env) (H : Hp) (R : AV → Hp → Prop) : Prop :=
  AYield C.P C.G b args H fun r H' => AOps C ops rest k (env.put dst r) H' R

/-- The rest of a region's operations behind a call. -/
def CallK (C : Cx) (ops : Array Oper) (f : FuncId) (args : List AV) (dst : Option Nat) (rest : List Oper) (k : List Item) (env : Env) (H : Hp) (R : AV → Hp → Prop) : Prop :=
  ACall C.P C.G f args H fun r H' => AOps C ops rest k (env.put dst r) H' R

def runS (C : Cx) (ops : Array Oper) (r : SRes) (dst : Option Nat) (rest : List Oper) (k : List Item) (env : Env) (H : Hp) (R : AV → Hp → Prop) (go : AV → Hp → Prop) : Prop :=
  match r with
  | .val x H' => dstOK C.nt dst = true ∧ go x H'
  | .unit H' => dst = none ∧ go .top H'
  | .call f args => dstOK C.nt dst = true ∧ CallK C ops f (callArgs C.raw f args) dst rest k env H R
  | .yield b args => dstOK C.nt dst = true ∧ YieldK C ops b (args.map AV.weak) dst rest k env H R
  | .fail => False

/-- A region in the text's order. -/
def runL (C : Cx) (ops : Array Oper) : List Oper → List Item → Env → Hp → (AV → Hp → Prop) → Prop
  | [], k, env, H, R => ARun C k env H R
  | o :: rest, k, env, H, R =>
    match wantedA C.nt ops o.guard env with
    | some true => runS C ops (stepOp C.P C.G o.op o.type env H) o.dst rest k env H R (fun x H' => runL C ops rest k (env.put o.dst x) H' R)
    | some false => dstOK C.nt o.dst = true ∧ runL C ops rest k (env.put o.dst (.tup [])) H R
    | none => False

theorem wpListIn_mono {F : Fence} {n : Nat} (l : List Oper) {Q Q' : Exit → Act → World → Prop} (hQ : ∀ e a w, Q e a w → Q' e a w) : ∀ a w, wpListIn F n C.P ops Q l a w → wpListIn F n C.P ops Q' l a w := by
  induction l with
  | nil => intro a w h; exact hQ _ _ _ h
  | cons o l ih =>
    intro a w h
    unfold wpListIn at h ⊢
    split
    · rename_i hw; rw [if_pos hw] at h
      unfold Oper.wpIn at *
      refine ⟨h.1, ?_⟩
      have h := h.2
      generalize (o.semAt F.round a.eval).run C.P w = r at *
      have lets : LetsOut Q → LetsOut Q' := fun ⟨a0, w0, q⟩ => ⟨a0, w0, hQ _ _ _ q⟩
      cases r with
      | ok x w' =>
        cases x <;> simp only [Oper.uponIn] at h ⊢ <;>
          first
            | exact ih _ _ h
            | exact ⟨h.1, CallsIn.mono h.2 (fun e w'' he => by cases e <;> first | exact ih _ _ he | exact hQ _ _ _ he | exact lets he)⟩
            | exact ⟨h.1, RoundIn.mono h.2 (fun e w'' he => by cases e <;> first | exact ih _ _ he | exact hQ _ _ _ he | exact lets he)⟩
            | exact ⟨h.1, RowsIn.mono h.2 (fun _ _ he => ih _ _ he)⟩
      | halt x w' => cases x <;> simp only [Oper.uponIn] at h ⊢ <;> exact hQ _ _ _ h
    · rename_i hw; rw [if_neg hw] at h; exact ⟨h.1, ih _ _ h.2⟩

/-- What is asked of one operation: what it comes to, and that the rest goes on from there. -/
theorem AOps.of_op {o : Oper} (t : Bool) (hw : wantedA C.nt ops o.guard env = some t)
    (h : ∀ σ w a m, Pre C σ H w env a m → ∀ (K : Act → World → Prop) (Q : Exit → Act → World → Prop),
      (∀ x v H' σ' w', AOps C ops rest k (env.put o.dst x) H' R → (∀ i, o.dst = some i → i < C.nt) → Rel C.G σ' H' w' → RelV σ' H' w' x v → Ev H.n σ H w σ' H' w' → K (a.put o.dst v) w') →
      if t then o.wpIn (Fr C σ) 0 C.P a w K Q else K (a.put o.dst undef) w) : AOps C ops (o :: rest) k env H R := by
  intro σ w a m hpre
  have key : ∀ x v H' σ' w', AOps C ops rest k (env.put o.dst x) H' R → (∀ i, o.dst = some i → i < C.nt) → Rel C.G σ' H' w' → RelV σ' H' w' x v → Ev H.n σ H w σ' H' w' →
      wpListIn (Fr C σ) 0 C.P ops (fun e a' w' => e = .normal ∧ ∃ env' H' σ', ARun C k env' H' R ∧ Pre C σ' H' w' env' a' m ∧ Ev H.n σ H w σ' H' w') rest (a.put o.dst v) w' := by
    intro x v H' σ' w' hrest hd hrel hv hev
    have hf' : RelF C.nt m σ' H' w' (env.put o.dst x) (a.put o.dst v) := (hpre.fr.mono hev).put hd hv
    have hpre' : Pre C σ' H' w' (env.put o.dst x) (a.put o.dst v) m := hpre.go hrel hf' hev
    have h1 := hrest σ' w' (a.put o.dst v) m hpre'
    have hF : Fr C σ' = Fr C σ := by simp only [Fr, round_eq hpre.n0 hev.c hpre.lt]
    rw [hF] at h1
    refine wpListIn_mono rest ?_ _ _ h1
    rintro e a' w2 ⟨rfl, env', H2, σ2, hr, hpre2, hev2⟩
    exact ⟨rfl, env', H2, σ2, hr, hpre2, hev.trans (hev2.weaken hev.hn) (Nat.le_refl _)⟩
  have h1 := h σ w a m hpre _ (fun e a' w' => e = .normal ∧ ∃ env' H' σ', ARun C k env' H' R ∧ Pre C σ' H' w' env' a' m ∧ Ev H.n σ H w σ' H' w') key
  unfold wpListIn
  have hwt := wantedA_spec (o := o) hw hpre.fr rfl
  cases t with
  | true => rw [if_pos hwt]; exact h1
  | false => rw [if_neg (by rw [hwt]; simp)]; exact ⟨fun f _ => trivial, h1⟩

theorem AOps.run : ∀ {l : List Oper} {env : Env} {H : Hp}, runL C ops l k env H R → AOps C ops l k env H R
  | [], env, H, h => .nil h
  | o :: rest, env, H, h => by
    unfold runL at h
    split at h
    · rename_i hwa
      have h' : aOp1 C o env H fun x H' => AOps C ops rest k (env.put o.dst x) H' R := by
        unfold aOp1
        unfold runS at h
        generalize stepOp C.P C.G o.op o.type env H = r at h
        cases r with
        | val x H' => exact ⟨h.1, AOps.run h.2⟩
        | unit H' => exact ⟨h.1, AOps.run h.2⟩
        | call f args => exact ⟨h.1, h.2⟩
        | yield b args => exact ⟨h.1, h.2⟩
        | fail => exact h.elim
      exact .of_op true hwa fun σ w a m hpre K Q hK => h'.wp hpre.rel hpre.fr hK
    · rename_i hwa
      exact .of_op false hwa fun σ w a m hpre K Q hK => hK (.tup []) undef H σ w (AOps.run h.2) (dstOK_spec h.1) hpre.rel (.tup #[] rfl (by simp)) (Ev.refl (Nat.le_refl _))
    · exact h.elim

theorem CallK.of {f : FuncId} {args : List AV} {dst : Option Nat} {r : AV} {H' : Hp} (h : ∀ R : AV → Hp → Prop, R r H' → ACall C.P C.G f args H R) (hk : runL C ops rest k (env.put dst r) H' R) : CallK C ops f args dst rest k env H R :=
  h _ (AOps.run hk)

theorem CallK.ex {f : FuncId} {args : List AV} {dst : Option Nat} {S : AV → Hp → Prop} (h : ACall C.P C.G f args H S) (hk : ∀ r H', S r H' → runL C ops rest k (env.put dst r) H' R) : CallK C ops f args dst rest k env H R :=
  h.mono fun r H' q => AOps.run (hk r H' q)

theorem YieldK.of {b : Nat} {args : List AV} {dst : Option Nat} {r : AV} {H' : Hp} (h : ∀ R : AV → Hp → Prop, R r H' → AYield C.P C.G b args H R) (hk : runL C ops rest k (env.put dst r) H' R) : YieldK C ops b args dst rest k env H R :=
  h _ (AOps.run hk)

theorem ARun.text {id : Nat} {l : List Oper} (h : runL C l.toArray l k env H R) : ARun C (.code (.region id l.toArray false) :: k) env H R := .region (AOps.run h)

/-! ### Returns -/

def aresOne (P : Program) (env : Env) (H : Hp) : ResultVar → Option AV
  | .tmp t => some (env t)
  | .cell a t => aLoad P H t (env a)

def aresAll (P : Program) (env : Env) (H : Hp) : List ResultVar → Option (List AV)
  | [] => some []
  | r :: rs => match aresOne P env H r, aresAll P env H rs with
    | some x, some xs => some (x :: xs)
    | _, _ => none

def ares (P : Program) (rs : List ResultVar) (env : Env) (H : Hp) : Option AV :=
  match aresAll P env H rs with
  | some [x] => some x
  | some xs => some (.tup xs)
  | none => none

def resF (tmps : Array Value) : ResultVar → Sem Value
  | .tmp t => pure (tmps.getD t undef)
  | .cell a t => do loadVar t (← asAddr (tmps.getD a undef))

theorem results_eq (fn : Func) (tmps : Array Value) : results fn tmps = (do let vs ← fn.results.mapM (resF tmps); pure (if h : vs.size = 1 then vs[0] else .tuple vs)) := by
  unfold results
  congr 1

theorem aresOne_run {σ : Gh} {w : World} {a : Act} {nt m : Nat} (hr : Rel C.G σ H w) (hf : RelF nt m σ H w env a) {r : ResultVar} {x : AV} (h1 : aresOne C.P env H r = some x) :
    ∃ v, (resF a.tmps r).run C.P w = .ok v w ∧ RelV σ H w x v := by
  cases r with
  | tmp t => simp only [aresOne, Option.some.injEq] at h1; subst h1; exact ⟨_, rfl, hf.slot t⟩
  | cell ad t =>
    simp only [aresOne] at h1
    obtain ⟨v, hv, hx⟩ := aLoad_run hr h1 (hf.slot ad)
    refine ⟨v, ?_, hx⟩
    have hptr : ∃ p, a.tmps.getD ad undef = .pointer (some p) := by
      have hs := hf.slot ad
      generalize a.tmps.getD ad undef = u at hs ⊢
      generalize env ad = y at h1 hs
      unfold aLoad at h1
      split at h1
      case h_2 => cases h1
      split at h1
      · cases hs; exact ⟨_, rfl⟩
      · cases hs; exact ⟨_, rfl⟩
      · cases hs; exact ⟨_, rfl⟩
      · cases h1
    obtain ⟨p, hp⟩ := hptr
    rw [hp] at hv
    simp only [resF, hp]
    exact hv

theorem aresAll_run {σ : Gh} {w : World} {a : Act} {nt m : Nat} (hr : Rel C.G σ H w) (hf : RelF nt m σ H w env a) : ∀ {rs : List ResultVar} {xs : List AV}, aresAll C.P env H rs = some xs →
    ∃ vs : List Value, (rs.mapM (resF a.tmps)).run C.P w = .ok vs w ∧ vs.length = xs.length ∧ ∀ (i : Nat) x v, xs[i]? = some x → vs[i]? = some v → RelV σ H w x v
  | [], xs, h => by simp only [aresAll, Option.some.injEq] at h; subst h; exact ⟨[], by simp, rfl, by simp⟩
  | r :: rs, xs, h => by
    simp only [aresAll] at h
    split at h
    case h_2 => cases h
    rename_i x ys h1 h2
    cases h
    obtain ⟨vs, q1, q2, q3⟩ := aresAll_run hr hf h2
    obtain ⟨v, hv, hx⟩ := aresOne_run hr hf h1
    refine ⟨v :: vs, ?_, by simp [q2], fun i y u hy hu => ?_⟩
    · rw [List.mapM_cons]
      simp only [Sem.run_bind, hv, Result.andThen_ok, q1, Sem.run_pure]
    · cases i with
      | zero => simp at hy hu; subst hy; subst hu; exact hx
      | succ i => simp at hy hu; exact q3 i y u hy hu

theorem ares_run {fn : Func} {x : AV} {σ : Gh} {w : World} {a : Act} {nt m : Nat} (hr : Rel C.G σ H w) (hf : RelF nt m σ H w env a) (h : ares C.P fn.results.toList env H = some x) :
    ∃ v, (results fn a.tmps).run C.P w = .ok v w ∧ RelV σ H w x v := by
  unfold ares at h
  cases hall : aresAll C.P env H fn.results.toList with
  | none => simp [hall] at h
  | some xs =>
    obtain ⟨vs, q1, q2, q3⟩ := aresAll_run hr hf hall
    have hm : (fn.results.mapM (resF a.tmps)).run C.P w = .ok vs.toArray w := by
      rw [Array.mapM_eq_mapM_toList, Sem.run_map, q1, Result.andThen_ok]
    simp only [hall] at h
    rw [results_eq, Sem.run_bind, hm, Result.andThen_ok]
    split at h
    · rename_i y hy
      cases hy
      cases h
      match vs, q2, q3 with
      | [v], _, q3 => exact ⟨v, rfl, q3 0 _ v rfl rfl⟩
    · rename_i ys hne hy
      cases hy
      cases h
      refine ⟨.tuple vs.toArray, ?_, .tup _ (by simp [q2]) (fun i x v h1 h2 => q3 i x v h1 (by simpa using h2))⟩
      have : ¬ vs.toArray.size = 1 := fun h1 => by
        simp only [List.size_toArray, q2] at h1
        match xs, h1, hne with
        | [z], _, hne => exact hne z rfl
      simp only [this, dite_false, Sem.run_pure]
    · rename_i hy; cases hy

/-- The value with every name of n0 or above forgotten. -/
def AV.out (n0 : Nat) : AV → Option AV
  | .p x => some (.p x.weak)
  | .sl _ _ sz xs => some (.p (.sl false sz xs))
  | .tup xs => match pvs? xs with | some ps => some (.tup (ps.map fun p => .p p.weak)) | none => none
  | .ptr b off => if b < n0 then some (.ptr b off) else none
  | .ref b off len sz => if b < n0 then some (.ref b off len sz) else none
  | .vr b len sz => if b < n0 then some (.vr b len sz) else none
  | _ => none

theorem TailOK.trunc {σ : Gh} {n0 α k sz : Nat} {v : Value} (h : TailOK σ H α k sz v) (hα : α < n0) : TailOK σ (H.trunc n0) α k sz v :=
  ⟨hα, fun k0 d hk => h.2 k0 d (by rwa [Hp.f_trunc, if_pos hα] at hk)⟩

theorem Stable.trunc {σ : Gh} {n0 g o : Nat} (h : Stable σ H g o) : Stable σ (H.trunc n0) g o := by
  have hf : ∀ b x, (H.trunc n0).f b = some x → H.f b = some x := fun b x h => by
    rw [Hp.f_trunc] at h
    split at h
    · exact h
    · cases h
  exact ⟨fun b cs hb => h.1 b cs (hf _ _ hb), fun b v d o' s hb => h.2 b v d o' s (hf _ _ hb)⟩

theorem RelV.trunc {σ : Gh} {w : World} {n0 : Nat} {x : AV} {v : Value} (h : RelV σ H w x v) : BelowN n0 x → RelV σ (H.trunc n0) w x v := by
  have hp : ∀ {x : PV} {v : Value}, RelP w (Stable σ H) x v → RelP w (Stable σ (H.trunc n0)) x v := fun h => h.mono fun g o v h1 h2 => ⟨h1.trunc, h2⟩
  induction h with
  | p h => exact fun _ => .p (hp h)
  | sl h ht => intro hb; cases hb with | sl _ _ _ _ hb => exact .sl (hp h) (ht.trunc hb)
  | ref a h0 _ hcap ha => intro hb; cases hb with | ref _ _ _ _ hb => exact .ref a h0 hb hcap ha
  | ptr _ => intro hb; cases hb with | ptr _ _ hb => exact .ptr hb
  | ip h hi hs => exact fun _ => .ip (hp h) hi hs
  | clo fs cs hf hc _ _ ih1 ih2 => intro hb; cases hb with | clo _ _ _ h1 h2 => exact .clo fs cs hf hc (fun i x v a b => ih1 i x v a b (h1 i x a)) (fun i x v a b => ih2 i x v a b (h2 i x a))
  | tup vs hl _ ih => intro hb; cases hb with | tup _ h => exact .tup vs hl (fun i x v a b => ih i x v a b (h i x a))
  | agg vs hl h1 _ ih => intro hb; cases hb with | agg _ h => exact .agg vs hl h1 (fun i x v a b => ih i x v a b (h i x a))
  | yld _ => intro hb; cases hb with | yld _ hb => exact .yld hb
  | vr q =>
    intro hb
    cases hb with | vr _ _ _ hb =>
    obtain ⟨_, a, cap, rfl, q1, q2⟩ := q
    exact .vr ⟨hb, a, cap, rfl, q1, fun k0 d hk => q2 k0 d (by rwa [Hp.f_trunc, if_pos hb] at hk)⟩
  | vp a q =>
    intro hb
    cases hb with | vp _ _ _ hb =>
    exact .vp a ⟨hb, fun k0 d hk => q.2 k0 d (by rwa [Hp.f_trunc, if_pos hb] at hk)⟩
  | top v => exact fun _ => .top v

theorem trunc_rel {σ : Gh} {w : World} {n0 : Nat} (hr : Rel C.G σ H w) (hb : Bel n0 H) : Rel C.G σ (H.trunc n0) w ∧ Ev n0 σ H w σ (H.trunc n0) w := by
  have hf : ∀ b x, (H.trunc n0).f b = some x → H.f b = some x ∧ b < n0 := fun b x h => by
    rw [Hp.f_trunc] at h
    split at h
    · rename_i hb; exact ⟨h, hb⟩
    · cases h
  have hev : Ev n0 σ H w σ (H.trunc n0) w := ⟨fun g o v h1 h2 => ⟨h1.trunc, h2⟩, fun _ _ => rfl, Nat.le_refl _, fun b hb k d hk => ⟨k, d, (hf _ _ hk).1, Nat.le_refl _, fun _ => rfl⟩, Nat.le_refl _,
    fun g _ h => ⟨rfl, fun b cs hb => h.1 b cs (hf _ _ hb).1, fun b v d o' s hb => h.2 b v d o' s (hf _ _ hb).1, fun b vs S hb => h.3 b vs S (hf _ _ hb).1⟩, rfl, rfl⟩
  refine ⟨⟨fun b cs h => ?_, fun b k d g o s h => hr.tail b k d g o s (hf _ _ h).1, fun b k cs h => ?_, fun b b' cs cs' h h' => hr.cc b b' cs cs' (hf _ _ h).1 (hf _ _ h').1, fun b b' cs k d g o s h h' => hr.ct b b' cs k d g o s (hf _ _ h).1 (hf _ _ h').1,
    fun b b' k d k' d' g o s o' s' h h' => hr.tt b b' k d k' d' g o s o' s' (hf _ _ h).1 (hf _ _ h').1, fun g sz xs h => (hr.glob g sz xs h).trunc (.ip _ _ _ _), fun b vs S h => ?_, fun b b' vs vs' S S' h h' => hr.oo b b' vs vs' S S' (hf _ _ h).1 (hf _ _ h').1⟩, hev⟩
  · obtain ⟨h1, h2⟩ := hf _ _ h
    obtain ⟨c, e, q1, q2, q3⟩ := hr.cells b cs h1
    exact ⟨c, e, q1, q2, fun i x hx => let ⟨v, a, b'⟩ := q3 i x hx; ⟨v, a, b'.1.trunc (hb b _ h2 h1 x (List.mem_of_getElem? hx)), b'.2⟩⟩
  · obtain ⟨h1, h2⟩ := hf _ _ h
    obtain ⟨q0, q1, q2⟩ := hr.vec b k cs h1
    refine ⟨q0, q1, fun g o s hg => ?_⟩
    obtain ⟨p0, p1, p2⟩ := q2 g o s hg
    exact ⟨p0, p1, fun i x hx => let ⟨v, a, b'⟩ := p2 i x hx; ⟨v, a, b'.1.trunc (hb b _ h2 h1 x (List.mem_of_getElem? hx)), b'.2⟩⟩
  · obtain ⟨h1, h2⟩ := hf _ _ h
    obtain ⟨o, us, q1, q2, q3, q4⟩ := hr.objs b vs S h1
    exact ⟨o, us, q1, q2, ⟨q3.1, fun i x v a b' => (q3.2 i x v a b').trunc (hb b _ h2 h1 x (List.mem_of_getElem? a))⟩, q4⟩

theorem AV.out_rel {σ : Gh} {w : World} {n0 : Nat} {x y : AV} {v : Value} (h : x.out n0 = some y) (r : RelV σ H w x v) : RelV σ (H.trunc n0) w y v := by
  cases x with
  | p x => simp only [AV.out, Option.some.injEq] at h; subst h; exact r.weak.trunc (.p _)
  | sl α k sz xs => simp only [AV.out, Option.some.injEq] at h; subst h; exact r.weak.trunc (.p _)
  | ptr b off =>
    simp only [AV.out] at h
    split at h
    · rename_i hb; cases h; exact r.trunc (.ptr _ _ hb)
    · cases h
  | ref b off len sz =>
    simp only [AV.out] at h
    split at h
    · rename_i hb; cases h; exact r.trunc (.ref _ _ _ _ hb)
    · cases h
  | vr b len sz =>
    simp only [AV.out] at h
    split at h
    · rename_i hb; cases h; exact r.trunc (.vr _ _ _ hb)
    · cases h
  | tup xs =>
    simp only [AV.out] at h
    split at h
    case h_2 => cases h
    rename_i ps hps
    cases h
    obtain ⟨hl, hg⟩ := pvs?_get hps
    cases r with | tup vs hvl hv =>
    refine .tup vs (by simp [hl, hvl]) fun i y v hy hv' => ?_
    simp only [List.getElem?_map, Option.map_eq_some_iff] at hy
    obtain ⟨p, hp, rfl⟩ := hy
    obtain ⟨a, ha, hap⟩ := hg i p hp
    exact RelV.trunc (.p (AV.pv?_rel hap (hv i a v ha hv')).weak) (.p _)
  | _ => simp [AV.out] at h

/-- The marks of the loops over functions are taken, one by one; what reads as it did goes on reading so. -/
theorem marks_taken {P : Program} {G : Globs} {σ : Gh} : ∀ (ms : List Nat) (fr : Frame) (cs : List Frame) (w : World) {m : Nat}, fr.mode = .returning → fr.defers = ms.map mark → ms.Nodup → (∀ r ∈ ms, m ≤ r ∧ w.heap[r]? = some (.deferred (some [])) ∧ Free σ H r) → Rel G σ H w →
    ∃ w', Steps P (lone fr cs w) (lone { fr with defers := [] } cs w') ∧ Rel G σ H w' ∧ (∀ n0, n0 ≤ H.n → EvM n0 m σ H w σ H w')
  | [], fr, cs, w, m, hm, hd, _, _, hr => ⟨w, by
      have : { fr with defers := [] } = fr := by cases fr; simp only at hd; subst hd; rfl
      rw [this]; exact .refl _ _, hr, fun n0 hn => Ev.refl hn⟩
  | r :: ms, fr, cs, w, m, hm, hd, hnd, hms, hr => by
    obtain ⟨h1, h2, h3⟩ := hms r (by simp)
    have hlt : r < w.heap.size := (Array.getElem?_eq_some_iff.1 h2).1
    have hother : ∀ g, g ≠ r → (w.putObj r (.deferred none)).heap[g]? = w.heap[g]? := fun g hg => World.putObj_heap_other hg
    have hev : ∀ n0, n0 ≤ H.n → EvM n0 m σ H w σ H (w.putObj r (.deferred none)) := fun n0 hn => by
      refine ⟨fun g o v q1 q2 => ⟨q1, ?_⟩, fun _ _ => rfl, hn, fun _ _ k d hk => ⟨k, d, hk, Nat.le_refl _, fun _ => rfl⟩, by simp, fun g hg hf => ⟨hother g (by omega), hf⟩, rfl, rfl⟩
      by_cases hgr : g = r
      · subst hgr; simp [World.cell?, h2] at q2
      · simpa [World.cell?, hother g hgr] using q2
    have hrel : Rel G σ H (w.putObj r (.deferred none)) := by
      have hev := hev H.n (Nat.le_refl _)
      refine ⟨fun b cs h => ?_, fun b k d g o s h ht => ?_, hr.vec_keep hev (fun _ _ _ h => ⟨h, rfl⟩) (fun b k cs g o s _ h ht => hother g (fun hg => h3.2 b k _ o s h (hg ▸ ht))), hr.cc, hr.ct, hr.tt, fun g sz xs h => (hr.glob g sz xs h).mono hev, fun b vs S h => ?_, hr.oo⟩
      · obtain ⟨c, e, p1, p2, p3⟩ := hr.cells b cs h
        exact ⟨c, e, (hother _ (h3.1 b cs h)).trans p1, p2, fun i x hx => let ⟨v, a, b⟩ := p3 i x hx; ⟨v, a, b.mono hev⟩⟩
      · obtain ⟨c, e, p1, p2⟩ := hr.tail b k d g o s h ht
        exact ⟨c, e, (hother g (fun hg => h3.2 b k d o s h (hg ▸ ht))).trans p1, p2⟩
      · obtain ⟨o, us, p1, p2, p3, p4⟩ := hr.objs b vs S h
        exact ⟨o, us, (hother _ (h3.3 b vs S h)).trans p1, p2, p3.mono hev, p4⟩
    have hs := step_collected (P := P) (fr := fr) (cs := cs) (w := w) (d := mark r) (r := r) (ds := ms.map mark) (by rw [hm]; simp) hd rfl (run_takeDeferred h2)
    have hnd' := List.nodup_cons.1 hnd
    obtain ⟨w', q1, q2, q3⟩ := marks_taken (P := P) ms { fr with defers := [] ++ ms.map mark } cs (w.putObj r (.deferred none)) (m := m) hm rfl hnd'.2
      (fun g hg => let ⟨p1, p2, p3⟩ := hms g (by simp [hg]); ⟨p1, (hother g (fun e => hnd'.1 (e ▸ hg))).trans p2, p3⟩) hrel
    exact ⟨w', .head hs q1, q2, fun n0 hn => (hev n0 hn).trans' (q3 n0 hn) (Nat.le_refl _) (Nat.le_refl _) (Nat.le_refl _)⟩

/-- A result read in one world reads the same in another where cells are as they were. -/
theorem ARun.leave {fn : Func} {x : AV} (hro : C.round = none) (hfn : C.P.funcs[C.fid]? = some fn) {rs : List ResultVar} (hrs : fn.results.toList = rs) (hx : ares C.P rs env H = some x) (todo : List Item)
    (hstep : ∀ (b : Frame) (a : Act) cs w, b.roundOf = none → step C.P (lone (b.atR a todo) cs w) = .next (lone { b.atR a todo with mode := .returning } cs w))
    {R : AV → Hp → Prop} (y : AV) (H' : Hp) (hR : R y H') (hrel : ∀ σ w v, Rel C.G σ H w → RelV σ H w x v → C.n0 ≤ H.n → ∃ σ', Rel C.G σ' H' w ∧ RelV σ' H' w y v ∧ Ev C.n0 σ H w σ' H' w) : ARun C todo env H R := by
  intro σ w a b cs m hb hpre
  subst hrs
  have hro' : b.roundOf = none := by rw [hb.ro, hro]; rfl
  obtain ⟨ms, d1, d2, d3⟩ := hpre.fr.defers
  obtain ⟨w1, s1, r1, e1⟩ := marks_taken (P := C.P) ms { b.atR a todo with mode := .returning } cs w (m := m) rfl d1 d2 d3 hpre.rel
  have hf1 : RelF C.nt 0 σ H w1 env { a with defers := [] } := ⟨⟨[], rfl, List.nodup_nil, by simp⟩, hpre.fr.size, fun i => (hpre.fr.slot i).mono (e1 H.n (Nat.le_refl _))⟩
  obtain ⟨v, hv, hxv⟩ := ares_run r1 hf1 hx
  obtain ⟨σ', q1, q2, q3⟩ := hrel σ w1 v r1 hxv hpre.n0
  refine ⟨y, H', σ', v, w1, _, hR, .head (hstep b a cs w hro') s1, ?_, q1, q2, (e1 C.n0 hpre.n0).trans' q3 (Nat.le_refl _) (Nat.le_refl _) (Nat.le_trans hpre.m (e1 C.n0 hpre.n0).size)⟩
  unfold Fin
  rw [hro]
  exact ⟨_, rfl, hb.fn, rfl, rfl, hb.kind, fn, by simpa [Frame.atR, hb.fn] using hfn, hv⟩

/-- The function returns; what it named for itself is forgotten. -/
theorem ARun.ret {fn : Func} {x y : AV} (hfn : C.P.funcs[C.fid]? = some fn) {rs : List ResultVar} (hrs : fn.results.toList = rs) (hx : ares C.P rs env H = some x) (hy : x.out C.n0 = some y) (hb : Bel C.n0 H) (hR : R y (H.trunc C.n0)) (hro : C.round = none := by rfl) :
    ARun C (.code .ret :: k) env H R :=
  .leave hro hfn hrs hx _ (fun _ _ _ _ h => stepR_ret h) y _ hR fun σ w v h1 h2 _ => let ⟨a, b⟩ := trunc_rel h1 hb; ⟨σ, a, AV.out_rel hy h2, b⟩
theorem ARun.fin {fn : Func} {x y : AV} (hfn : C.P.funcs[C.fid]? = some fn) {rs : List ResultVar} (hrs : fn.results.toList = rs) (hx : ares C.P rs env H = some x) (hy : x.out C.n0 = some y) (hb : Bel C.n0 H) (hR : R y (H.trunc C.n0)) (hro : C.round = none := by rfl) :
    ARun C [] env H R :=
  .leave hro hfn hrs hx _ (fun _ _ _ _ h => stepR_end h) y _ hR fun σ w v h1 h2 _ => let ⟨a, b⟩ := trunc_rel h1 hb; ⟨σ, a, AV.out_rel hy h2, b⟩

/-- The function returns; the heap stays as it is. -/
theorem ARun.retKeep {fn : Func} {x : AV} (hfn : C.P.funcs[C.fid]? = some fn) {rs : List ResultVar} (hrs : fn.results.toList = rs) (hx : ares C.P rs env H = some x) (hR : R x H) (hro : C.round = none := by rfl) : ARun C (.code .ret :: k) env H R :=
  .leave hro hfn hrs hx _ (fun _ _ _ _ h => stepR_ret h) x _ hR fun σ _ _ h1 h2 hn => ⟨σ, h1, h2, Ev.refl hn⟩
theorem ARun.finKeep {fn : Func} {x : AV} (hfn : C.P.funcs[C.fid]? = some fn) {rs : List ResultVar} (hrs : fn.results.toList = rs) (hx : ares C.P rs env H = some x) (hR : R x H) (hro : C.round = none := by rfl) : ARun C [] env H R :=
  .leave hro hfn hrs hx _ (fun _ _ _ _ h => stepR_end h) x _ hR fun σ _ _ h1 h2 hn => ⟨σ, h1, h2, Ev.refl hn⟩
end

end Go.AL
