/-
  Loops over a function: the loop's record, the calls of its yield function, the rounds, the statement.
  Conditions: none; nothing here speaks of one program.
-/
import Derived.Test.YtkpeknkpleocgaaDoorEngQ
import Derived.RangeFuncRecord
set_option linter.unusedSimpArgs false
set_option linter.unusedVariables false
namespace Go.AL
open Go

/-- What the record of a loop over a function is, in a state, with a jump waiting. -/
def LoopS (fn : FuncId) (ps : Array Tmp) (assign body : Code) (st : LoopState) (pend : Option Code) : Array Value → Obj → Prop :=
  fun us o => ∃ d, o = .loop { state := st, pending := pend, fn, tmps := us, params := ps, assign, body, defers := d }

/-- The same, the code hidden. -/
def LoopL (L : LoopState → Option Code → Array Value → Obj → Prop) : Prop := ∃ fn ps assign body, L = LoopS fn ps assign body

theorem LoopL.inv {L : LoopState → Option Code → Array Value → Obj → Prop} (h : LoopL L) {st : LoopState} {pend : Option Code} {us : Array Value} {o : Obj} (ho : L st pend us o) :
    ∃ r : Loop, o = .loop r ∧ r.state = st ∧ r.pending = pend ∧ ∀ st' pend', L st' pend' us (.loop { r with state := st', pending := pend' }) := by
  obtain ⟨fn, ps, x, y, rfl⟩ := h
  obtain ⟨d, rfl⟩ := ho
  exact ⟨_, rfl, rfl, rfl, fun st' pend' => ⟨d, rfl⟩⟩

section states
variable {G : Globs} {σ : Gh} {H : Hp} {w : World}

/-- A block that is no row becomes another such block. -/
theorem rel_setObj (hr : Rel G σ H w) {b : Nat} {vs : List AV} {S S' : Array Value → Obj → Prop} {o o' : Obj} {us : Array Value} (hb : H.f b = some (.obj vs S)) (hw : w.heap[σ.c b]? = some o) (ho : isObj o = true) (hus : RelVs σ H w vs us) (ho' : isObj o' = true) (hS : S' us o') :
    Rel G σ (H.set b (.obj vs S')) (w.putObj (σ.c b) o') ∧ Ev H.n σ H w σ (H.set b (.obj vs S')) (w.putObj (σ.c b) o') := by
  have hbn := Hp.lt hb
  have hlt : σ.c b < w.heap.size := heap_lt hw
  have hother : ∀ g, g ≠ σ.c b → (w.putObj (σ.c b) o').heap[g]? = w.heap[g]? := fun g hg => World.putObj_heap_other hg
  have fcells : ∀ b' x, (H.set b (.obj vs S')).f b' = some (.cells x) → H.f b' = some (.cells x) := by
    intro b' x h
    rw [Hp.f_set] at h
    split at h
    · cases h
    · exact h
  have ftail : ∀ b' k d, (H.set b (.obj vs S')).f b' = some (.tl k d) → H.f b' = some (.tl k d) := by
    intro b' x d h
    rw [Hp.f_set] at h
    split at h
    · cases h
    · exact h
  have fobj : ∀ b' vs' T, (H.set b (.obj vs S')).f b' = some (.obj vs' T) → ∃ vs'' T', H.f b' = some (.obj vs'' T') := by
    intro b' vs' T h
    rw [Hp.f_set] at h
    split at h
    · rename_i hh; rw [hh.1]; exact ⟨_, _, hb⟩
    · exact ⟨_, _, h⟩
  have hcell : ∀ g o1 v, w.cell? ⟨g, o1, none⟩ = some v → (w.putObj (σ.c b) o').cell? ⟨g, o1, none⟩ = some v := by
    intro g o1 v h
    by_cases hg : g = σ.c b
    · subst hg
      cases o <;> first | (simp [World.cell?, hw] at h; done) | cases ho
    · simpa [World.cell?, hother g hg] using h
  have hev : Ev H.n σ H w σ (H.set b (.obj vs S')) (w.putObj (σ.c b) o') := by
    refine ⟨fun g o1 v h1 h2 => ⟨⟨fun b' x h => h1.1 b' x (fcells _ _ h), fun b' k d o2 s h => h1.2 b' k d o2 s (ftail _ _ _ h)⟩, hcell g o1 v h2⟩, fun _ _ => rfl, Nat.le_refl _, fun b' _ k d hk => ⟨k, d, ftail b' k d hk, Nat.le_refl _, fun _ => rfl⟩, by simp,
      fun g hg hf => ⟨hother g (Ne.symm (hf.3 b vs S hb)), fun b' x h => hf.1 b' x (fcells _ _ h), fun b' k d o2 s h => hf.2 b' k d o2 s (ftail _ _ _ h), fun b' vs' T h => let ⟨_, _, h'⟩ := fobj _ _ _ h; hf.3 b' _ _ h'⟩, rfl, rfl⟩
  have hne : ∀ b' x, H.f b' = some (.cells x) → σ.c b' ≠ σ.c b := fun b' x h e => by
    obtain ⟨c, ee, q1, _⟩ := hr.cells b' x h
    rw [e, hw] at q1; cases q1; cases ho
  have hneT : ∀ b' k d g o2 s, H.f b' = some (.tl k d) → σ.t b' = some (g, o2, s) → g ≠ σ.c b := fun b' k d g o2 s h ht e => by
    obtain ⟨c, ee, q1, _⟩ := hr.tail b' k d g o2 s h ht
    rw [e, hw] at q1; cases q1; cases ho
  refine ⟨⟨fun b' x h => ?_, fun b' k d g o2 s h ht => ?_, hr.vec_keep hev (fun b' k ds h => ⟨ftail _ _ _ h, rfl⟩) (fun b' k ds g o2 s _ h ht => hother g (hneT b' k _ g o2 s h ht)), fun b1 b2 x y h1 h2 => hr.cc b1 b2 x y (fcells _ _ h1) (fcells _ _ h2), fun b1 b2 x k d g o2 s h1 h2 => hr.ct b1 b2 x k d g o2 s (fcells _ _ h1) (ftail _ _ _ h2),
    fun b1 b2 k d k' d' g o2 s o3 s' h1 h2 => hr.tt b1 b2 k d k' d' g o2 s o3 s' (ftail _ _ _ h1) (ftail _ _ _ h2), hr.glob_mono hev, fun b' vs' T h => ?_, fun b1 b2 v1 v2 T1 T2 h1 h2 he => ?_⟩, hev⟩
  · obtain ⟨c, ee, q1, q2, q3⟩ := hr.cells b' x (fcells _ _ h)
    exact ⟨c, ee, (hother _ (hne b' x (fcells _ _ h))).trans q1, q2, fun i y hy => let ⟨v, a, b⟩ := q3 i y hy; ⟨v, a, b.mono hev⟩⟩
  · obtain ⟨c, ee, q1, q2⟩ := hr.tail b' k d g o2 s (ftail _ _ _ h) ht
    exact ⟨c, ee, (hother g (hneT b' k d g o2 s (ftail _ _ _ h) ht)).trans q1, q2⟩
  · by_cases hbb : b' = b
    · subst hbb
      rw [Hp.f_set_self H _ _ hbn] at h
      cases h
      exact ⟨o', us, World.putObj_heap_same hlt, ho', hus.mono hev, hS⟩
    · rw [Hp.f_set_ne H _ _ _ hbb] at h
      obtain ⟨o1, us1, q1, q2, q3, q4⟩ := hr.objs b' vs' T h
      exact ⟨o1, us1, (hother _ (fun e => hbb (hr.oo b' b _ _ _ _ h hb e))).trans q1, q2, q3.mono hev, q4⟩
  · obtain ⟨_, _, h1'⟩ := fobj _ _ _ h1
    obtain ⟨_, _, h2'⟩ := fobj _ _ _ h2
    exact hr.oo b1 b2 _ _ _ _ h1' h2' he

/-- A new block that is no row gets a name. -/
theorem rel_newObj (hr : Rel G σ H w) (o : Obj) (ho : isObj o = true) (vs : List AV) (us : Array Value) (S : Array Value → Obj → Prop) (hus : RelVs σ H w vs us) (hS : S us o) :
    Rel G (σ.withC H.n w.heap.size) (H.new (.obj vs S)) (w.alloc o) ∧ Ev H.n σ H w (σ.withC H.n w.heap.size) (H.new (.obj vs S)) (w.alloc o) := by
  have hold : ∀ b, b < H.n → (σ.withC H.n w.heap.size).c b = σ.c b := fun b hb => by simp [Gh.withC, Nat.ne_of_lt hb]
  have hnew : (σ.withC H.n w.heap.size).c H.n = w.heap.size := by simp [Gh.withC]
  have fcells : ∀ b x, (H.new (.obj vs S)).f b = some (.cells x) → H.f b = some (.cells x) := by
    intro b x h
    rw [Hp.f_new] at h
    split at h
    · cases h
    · exact h
  have ftail : ∀ b k d, (H.new (.obj vs S)).f b = some (.tl k d) → H.f b = some (.tl k d) := by
    intro b x d h
    rw [Hp.f_new] at h
    split at h
    · cases h
    · exact h
  have fobj : ∀ b vs' T, (H.new (.obj vs S)).f b = some (.obj vs' T) → (b = H.n ∧ vs' = vs ∧ T = S) ∨ H.f b = some (.obj vs' T) := by
    intro b vs' T h
    rw [Hp.f_new] at h
    split at h
    · rename_i hh; cases h; exact .inl ⟨hh, rfl, rfl⟩
    · exact .inr h
  have hev : Ev H.n σ H w (σ.withC H.n w.heap.size) (H.new (.obj vs S)) (w.alloc o) := by
    refine ⟨fun g o1 v h1 h2 => ?_, hold, by simp [Hp.n_new], fun b hb k d hk => ⟨k, d, ftail b k d hk, Nat.le_refl _, fun _ => rfl⟩, by simp, fun g hg hf => ⟨heap_alloc_old w _ hg, ?_, ?_, ?_⟩, rfl, rfl⟩
    · have hlt : g < w.heap.size := World.block_lt_of_cell? (a := ⟨g, o1, none⟩) w h2
      refine ⟨⟨fun b x h => ?_, fun b k d o2 s h ht => h1.2 b k d o2 s (ftail _ _ _ h) ht⟩, by rw [World.cell?_alloc_lt (a := ⟨g, o1, none⟩) w _ hlt]; exact h2⟩
      have h := fcells _ _ h
      rw [hold b (Hp.lt h)]; exact h1.1 b x h
    · intro b x h
      have h := fcells _ _ h
      rw [hold b (Hp.lt h)]; exact hf.1 b x h
    · exact fun b k d o2 s h ht => hf.2 b k d o2 s (ftail _ _ _ h) ht
    · intro b vs' T h
      rcases fobj b vs' T h with ⟨rfl, _, _⟩ | h
      · rw [hnew]; omega
      · rw [hold b (Hp.lt h)]; exact hf.3 b vs' T h
  refine ⟨⟨fun b x h => ?_, fun b k d g o2 s h ht => ?_, hr.vec_keep hev (fun b k ds h => ⟨ftail _ _ _ h, rfl⟩) (fun b k ds g o2 s _ h ht => heap_alloc_old w _ (hr.t_lt h ht)), fun b1 b2 x y h1 h2 he => ?_, fun b1 b2 x k d g o2 s h1 h2 ht => ?_,
    fun b1 b2 k d k' d' g o2 s o3 s' h1 h2 => hr.tt b1 b2 k d k' d' g o2 s o3 s' (ftail _ _ _ h1) (ftail _ _ _ h2), hr.glob_mono hev, fun b vs' T h => ?_, fun b1 b2 v1 v2 T1 T2 h1 h2 he => ?_⟩, hev⟩
  · have h := fcells _ _ h
    obtain ⟨c, ee, q1, q2, q3⟩ := hr.cells b x h
    exact ⟨c, ee, by rw [hold b (Hp.lt h), heap_alloc_old w _ (hr.c_lt h)]; exact q1, q2, fun i y hy => let ⟨v, a, b⟩ := q3 i y hy; ⟨v, a, b.mono hev⟩⟩
  · have h := ftail _ _ _ h
    obtain ⟨c, ee, q1, q2⟩ := hr.tail b k d g o2 s h ht
    exact ⟨c, ee, by rw [heap_alloc_old w _ (hr.t_lt h ht)]; exact q1, q2⟩
  · have h1 := fcells _ _ h1
    have h2 := fcells _ _ h2
    rw [hold b1 (Hp.lt h1), hold b2 (Hp.lt h2)] at he
    exact hr.cc b1 b2 x y h1 h2 he
  · have h1 := fcells _ _ h1
    rw [hold b1 (Hp.lt h1)]; exact hr.ct b1 b2 x k d g o2 s h1 (ftail _ _ _ h2) ht
  · rcases fobj b vs' T h with ⟨rfl, rfl, rfl⟩ | h
    · exact ⟨o, us, by rw [hnew]; exact heap_alloc_new w _, ho, hus.mono hev, hS⟩
    · obtain ⟨o1, us1, q1, q2, q3, q4⟩ := hr.objs b vs' T h
      exact ⟨o1, us1, by rw [hold b (Hp.lt h), heap_alloc_old w _ (hr.o_lt h)]; exact q1, q2, q3.mono hev, q4⟩
  · rcases fobj b1 v1 T1 h1 with ⟨p1, _, _⟩ | p1 <;> rcases fobj b2 v2 T2 h2 with ⟨p2, _, _⟩ | p2
    · rw [p1, p2]
    · rw [p1, hnew, hold b2 (Hp.lt p2)] at he
      have := hr.o_lt p2; omega
    · rw [p2, hnew, hold b1 (Hp.lt p1)] at he
      have := hr.o_lt p1; omega
    · rw [hold b1 (Hp.lt p1), hold b2 (Hp.lt p2)] at he
      exact hr.oo b1 b2 _ _ _ _ p1 p2 he
end states

/-- The slots as a list. -/
def slots (nt : Nat) (env : Env) : List AV := (List.range nt).map env

def putArgs : List Nat → List AV → Env → Env
  | p :: ps, x :: xs, e => putArgs ps xs (e.put (some p) x)
  | _, _, e => e

/-- The slots that a round begins with. -/
def renv (nt : Nat) (env : Env) (ps : List Nat) (args : List AV) : Env := putArgs ps args fun i => if i < nt then env i else .tup []

theorem RelF.putArgs {nt m : Nat} {σ : Gh} {H : Hp} {w : World} : ∀ {ps : List Nat} {args : List AV} {vs : List Value} {env : Env} {tmps : Array Value}, RelF nt m σ H w env { tmps, defers := [] } → (∀ p ∈ ps, p < nt) → vs.length = args.length → (∀ (i : Nat) x v, args[i]? = some x → vs[i]? = some v → RelV σ H w x v) →
    RelF nt m σ H w (putArgs ps args env) { tmps := (ps.zip vs).foldl (fun t x => t.setIfInBounds x.1 x.2) tmps, defers := [] }
  | [], args, vs, env, tmps, hf, _, _, _ => hf
  | p :: ps, [], vs, env, tmps, hf, _, hl, _ => by
    have : vs = [] := by simpa using hl
    subst this; exact hf
  | p :: ps, x :: args, [], env, tmps, hf, _, hl, _ => by simp at hl
  | p :: ps, x :: args, v :: vs, env, tmps, hf, hp, hl, hr => by
    have h1 : RelF nt m σ H w (env.put (some p) x) { tmps := tmps.setIfInBounds p v, defers := [] } := hf.put (d := some p) (fun i hi => by cases hi; exact hp p (by simp)) (hr 0 x v rfl rfl)
    exact RelF.putArgs (ps := ps) h1 (fun q hq => hp q (by simp [hq])) (by simpa using hl) (fun i x v a b => hr (i + 1) x v (by simpa using a) (by simpa using b))

/-- One round, out of the run of its code in a round's frame. -/
theorem AYield.of_round {P : Program} {G : Globs} {b : Nat} {H : Hp} {R : AV → Hp → Prop} {fn : FuncId} {ps : List Nat} {assign body : Code} {nt : Nat} {env : Env} {args : List AV} {raw : List Nat}
    (hb : H.f b = some (.obj (slots nt env) (LoopS fn ps.toArray assign body .ready none))) (hps : ∀ p ∈ ps, p < nt) (hl : args.length = ps.length)
    (h : ARun ⟨P, G, fn, nt, H.n, raw, some b⟩ [.code assign, .beginRound, .code body] (renv nt env ps args) H R) : AYield P G b args H R := by
  intro σ w vs hr hvs
  obtain ⟨o, us, q1, q2, q3, d, rfl⟩ := hr.objs b _ _ hb
  refine ⟨_, _, _, _, run_yield q1 (by simpa [hl] using hvs.1), trivial, fun c cs _ => ?_⟩
  have hus : us.size = nt := by simpa [slots] using q3.1
  let fr : Frame := { (default : Frame) with fn := fn, kind := .normal, roundOf := some (σ.c b) }
  have hzip : ((ps.toArray.zip vs).foldl (fun tmps (t, a) => tmps.setIfInBounds t a) us) = (ps.zip vs.toList).foldl (fun t x => t.setIfInBounds x.1 x.2) us := by
    rw [← Array.foldl_toList]
    simp [Array.toList_zip]
  have h0 : Frame.round (σ.c b) fn ((ps.zip vs.toList).foldl (fun t x => t.setIfInBounds x.1 x.2) us) assign body .normal = fr.atR { tmps := (ps.zip vs.toList).foldl (fun t x => t.setIfInBounds x.1 x.2) us, defers := [] } [.code assign, .beginRound, .code body] := by
    simp [Frame.round, Frame.atR, fr]
  have hF0 : RelF nt w.heap.size σ H w (fun i => if i < nt then env i else .tup []) { tmps := us, defers := [] } := by
    refine ⟨⟨[], rfl, List.nodup_nil, by simp⟩, hus, fun i => ?_⟩
    simp only
    split
    · rename_i hi
      have h2 := q3.2 i (env i) us[i] (by simp [slots, hi]) (by simp)
      simpa [Array.getD_eq_getD_getElem?, hus, hi] using h2
    · rename_i hi
      have : us.getD i undef = undef := by simp [Array.getD_eq_getD_getElem?, Array.getElem?_eq_none (by omega : us.size ≤ i)]
      rw [this]; exact .tup #[] rfl (by simp)
  have hF := hF0.putArgs (ps := ps) (args := args) (vs := vs.toList) hps (by simpa using hvs.1) (fun i x v e1 e2 => hvs.2 i x v e1 (by simpa using e2))
  obtain ⟨r, H', σ', v, w', M, q, hst, ⟨c1, cs1, hcs, rfl⟩, hrel', hv, hev⟩ := h σ w _ fr (c :: cs) w.heap.size ⟨rfl, rfl, rfl, fun _ => by simp⟩ ⟨hr, hF, Nat.le_refl _, Nat.le_refl _, fun l hl => by cases hl; exact Hp.lt hb⟩
  cases hcs
  refine ⟨.returned v, w', ⟨r, H', σ', v, q, rfl, hrel', hv, hev⟩, ?_⟩
  rw [hzip, h0]
  exact stepsIn_wide.2 hst

section rounds
variable {C : Cx} {k : List Item} {env : Env} {H : Hp} {R : AV → Hp → Prop} {l : Nat} {vs : List AV} {L : LoopState → Option Code → Array Value → Obj → Prop}

/-- The round begins. -/
theorem ARun.beginRound (hro : C.round = some l) (hL : LoopL L) (hl : H.f l = some (.obj vs (L .ready none))) (h : ARun C k env (H.set l (.obj vs (L .busy none))) R) : ARun C (.beginRound :: k) env H R := by
  intro σ w a b cs m hb hpre
  obtain ⟨o, us, q1, q2, q3, q4⟩ := hpre.rel.objs l _ _ hl
  obtain ⟨r, rfl, hst, hp, hall⟩ := hL.inv q4
  have hrun := run_beginRound (P := C.P) q1 hst
  have e : ({ r with state := .busy } : Loop) = { r with state := .busy, pending := none } := by cases r; simp only at hp; subst hp; rfl
  obtain ⟨r1, e1⟩ := rel_setObj hpre.rel hl q1 q2 q3 (o' := .loop { r with state := .busy }) rfl (by rw [e]; exact hall .busy none)
  have hro' : b.roundOf = some (σ.c l) := by rw [hb.ro, hro]; rfl
  obtain ⟨r', H', σ', v, w', M, q, st, q1', q2', q3', q5⟩ := h σ _ a b cs m hb (hpre.go r1 (hpre.fr.mono e1) e1)
  exact ⟨r', H', σ', v, w', M, q, .head (stepR_beginRound hro' hrun) st, q1', q2', q3', e1.transM q5 hpre.n0 hpre.m⟩

theorem ARun.roundOver (hro : C.round = some l) (hL : LoopL L) (hl : H.f l = some (.obj vs (L .busy none))) (hb : Bel C.n0 H) (jump : Option Code) (todo : List Item)
    (hR : R (.p (bo jump.isNone)) ((H.set l (.obj vs (L (if jump.isNone then .ready else .done) jump))).trunc C.n0))
    (hs : ∀ (b : Frame) (a : Act) (c : Frame) cs w v w' g, b.roundOf = some g → b.kind = .normal → (Instr.endRound g jump).run C.P w = .ok v w' → step C.P (lone (b.atR a todo) (c :: cs) w) = .next (lone (c.finish v) cs w')) : ARun C todo env H R := by
  intro σ w a b cs m hbase hpre
  obtain ⟨o, us, q1, q2, q3, q4⟩ := hpre.rel.objs l _ _ hl
  obtain ⟨r, rfl, hst, hp, hall⟩ := hL.inv q4
  have hrun := run_endRound (P := C.P) jump q1
  obtain ⟨r1, e1⟩ := rel_setObj hpre.rel hl q1 q2 q3 (o' := .loop { r with state := if jump.isNone then .ready else .done, pending := jump }) rfl (hall _ _)
  have hb' : Bel C.n0 (H.set l (.obj vs (L (if jump.isNone then .ready else .done) jump))) := fun b' x hlt hf y hy => by
    rw [Hp.f_set] at hf
    split at hf
    · rename_i hh
      cases hf
      exact hb l _ (hh.1 ▸ hlt) hl y hy
    · exact hb b' x hlt hf y hy
  obtain ⟨r2, e2⟩ := trunc_rel r1 hb'
  have hro' : b.roundOf = some (σ.c l) := by rw [hbase.ro, hro]; rfl
  have hcs := hbase.cs (by rw [hro]; rfl)
  cases cs with
  | nil => exact absurd rfl hcs
  | cons c cs =>
    refine ⟨_, _, σ, .bool jump.isNone, _, lone (c.finish (.bool jump.isNone)) cs (w.putObj (σ.c l) (.loop { r with state := if jump.isNone then .ready else .done, pending := jump })), hR, .one (hs b a c cs w _ _ _ hro' hbase.kind hrun), ?_, r2, .p (.s _ rfl), e1.transM (e2.lower (Nat.le_trans hpre.m e1.size)) hpre.n0 hpre.m⟩
    unfold Fin
    rw [hro]
    exact ⟨c, cs, rfl, rfl⟩

/-- The round ends, by its end or by a jump. -/
theorem ARun.roundEnd (hro : C.round = some l) (hL : LoopL L) (hl : H.f l = some (.obj vs (L .busy none))) (hb : Bel C.n0 H) (hR : R (.p (bo true)) ((H.set l (.obj vs (L .ready none))).trunc C.n0)) : ARun C [] env H R :=
  .roundOver hro hL hl hb none [] hR fun _ _ _ _ _ _ _ _ h1 h2 h3 => stepR_round_end h1 h2 h3
theorem ARun.roundRet (hro : C.round = some l) (hL : LoopL L) (hl : H.f l = some (.obj vs (L .busy none))) (hb : Bel C.n0 H) (hR : R (.p (bo false)) ((H.set l (.obj vs (L .done (some .ret)))).trunc C.n0)) : ARun C (.code .ret :: k) env H R :=
  .roundOver hro hL hl hb (some .ret) _ hR fun _ _ _ _ _ _ _ _ h1 h2 h3 => stepR_round_ret h1 h2 h3
theorem ARun.roundExit {id : Nat} (hx : exitTo id k = none) (hro : C.round = some l) (hL : LoopL L) (hl : H.f l = some (.obj vs (L .busy none))) (hb : Bel C.n0 H) (hR : R (.p (bo false)) ((H.set l (.obj vs (L .done (some (.exit id))))).trunc C.n0)) : ARun C (.code (.exit id) :: k) env H R :=
  .roundOver hro hL hl hb (some (.exit id)) _ hR fun _ _ _ _ _ _ _ _ h1 h2 h3 => stepR_round_exit h1 h2 hx h3

/-- The same, the heap kept whole. -/
theorem ARun.roundOverK (hro : C.round = some l) (hL : LoopL L) (hl : H.f l = some (.obj vs (L .busy none))) (jump : Option Code) (todo : List Item)
    (hR : R (.p (bo jump.isNone)) (H.set l (.obj vs (L (if jump.isNone then .ready else .done) jump))))
    (hs : ∀ (b : Frame) (a : Act) (c : Frame) cs w v w' g, b.roundOf = some g → b.kind = .normal → (Instr.endRound g jump).run C.P w = .ok v w' → step C.P (lone (b.atR a todo) (c :: cs) w) = .next (lone (c.finish v) cs w')) : ARun C todo env H R := by
  intro σ w a b cs m hbase hpre
  obtain ⟨o, us, q1, q2, q3, q4⟩ := hpre.rel.objs l _ _ hl
  obtain ⟨r, rfl, hst, hp, hall⟩ := hL.inv q4
  have hrun := run_endRound (P := C.P) jump q1
  obtain ⟨r1, e1⟩ := rel_setObj hpre.rel hl q1 q2 q3 (o' := .loop { r with state := if jump.isNone then .ready else .done, pending := jump }) rfl (hall _ _)
  have hro' : b.roundOf = some (σ.c l) := by rw [hbase.ro, hro]; rfl
  have hcs := hbase.cs (by rw [hro]; rfl)
  cases cs with
  | nil => exact absurd rfl hcs
  | cons c cs =>
    refine ⟨_, _, σ, .bool jump.isNone, _, lone (c.finish (.bool jump.isNone)) cs (w.putObj (σ.c l) (.loop { r with state := if jump.isNone then .ready else .done, pending := jump })), hR, .one (hs b a c cs w _ _ _ hro' hbase.kind hrun), ?_, r1, .p (.s _ rfl), (e1.weaken hpre.n0).lower hpre.m⟩
    unfold Fin
    rw [hro]
    exact ⟨c, cs, rfl, rfl⟩
theorem ARun.roundEndK (hro : C.round = some l) (hL : LoopL L) (hl : H.f l = some (.obj vs (L .busy none))) (hR : R (.p (bo true)) (H.set l (.obj vs (L .ready none)))) : ARun C [] env H R :=
  .roundOverK hro hL hl none [] hR fun _ _ _ _ _ _ _ _ h1 h2 h3 => stepR_round_end h1 h2 h3
theorem ARun.roundRetK (hro : C.round = some l) (hL : LoopL L) (hl : H.f l = some (.obj vs (L .busy none))) (hR : R (.p (bo false)) (H.set l (.obj vs (L .done (some .ret))))) : ARun C (.code .ret :: k) env H R :=
  .roundOverK hro hL hl (some .ret) _ hR fun _ _ _ _ _ _ _ _ h1 h2 h3 => stepR_round_ret h1 h2 h3
theorem ARun.roundExitK {id : Nat} (hx : exitTo id k = none) (hro : C.round = some l) (hL : LoopL L) (hl : H.f l = some (.obj vs (L .busy none))) (hR : R (.p (bo false)) (H.set l (.obj vs (L .done (some (.exit id)))))) : ARun C (.code (.exit id) :: k) env H R :=
  .roundOverK hro hL hl (some (.exit id)) _ hR fun _ _ _ _ _ _ _ _ h1 h2 h3 => stepR_round_exit h1 h2 hx h3
end rounds

section stmt
variable {C : Cx} {k : List Item} {env : Env} {H : Hp} {R : AV → Hp → Prop}

/-- What is asked behind the iterator's return: no jump waits, or one does. -/
def LoopEnd (C : Cx) (L : LoopState → Option Code → Array Value → Obj → Prop) (vs : List AV) (k : List Item) (env : Env) (H : Hp) (R : AV → Hp → Prop) (H2 : Hp) : Prop :=
  Bel H.n H2 ∧ ((H2.f H.n = some (.obj vs (L .ready none)) ∧ ARun C k env (H2.trunc H.n) R) ∨
    ∃ j, H2.f H.n = some (.obj vs (L .done (some j))) ∧ ARun C (.code j :: k) env (H2.trunc H.n) R)

theorem RelVs.app {σ : Gh} {H : Hp} {w : World} {xs ys : List AV} {us vs : Array Value} (h1 : RelVs σ H w xs us) (h2 : RelVs σ H w ys vs) : RelVs σ H w (xs ++ ys) (us ++ vs) := by
  refine ⟨by simp [h1.1, h2.1], fun i x v e1 e2 => ?_⟩
  by_cases hi : i < us.size
  · rw [List.getElem?_append_left (by rw [← h1.1]; exact hi)] at e1
    rw [Array.getElem?_append_left hi] at e2
    exact h1.2 i x v e1 e2
  · rw [List.getElem?_append_right (by rw [← h1.1]; omega)] at e1
    rw [Array.getElem?_append_right (by omega)] at e2
    rw [← h1.1] at e1
    exact h2.2 _ x v e1 e2

/-- The statement, in a function's own frame. -/
theorem ARun.rangeFunc {g : Operand} {ps : List Nat} {assign body : Code} {f : FuncId} {first captured : List AV} (hro : C.round = none) (hg : aev C.G env g = .clo f first captured) (he : enters C.P f = true) (hps : ∀ p ∈ ps, p < C.nt)
    (h : ∀ (L : LoopState → Option Code → Array Value → Obj → Prop) (vs : List AV), LoopL L → (∀ y ∈ vs, BelowN H.n y) →
      (∀ (args : List AV) (H1 : Hp) (K : AV → Hp → Prop), args.length = ps.length → H1.f H.n = some (.obj vs (L .ready none)) →
        (Bel H1.n H1 → ARun ⟨C.P, C.G, C.fid, C.nt, H1.n, C.raw, some H.n⟩ [.code assign, .beginRound, .code body] (renv C.nt env ps args) H1 K) → AYield C.P C.G H.n args H1 K) →
      ACall C.P C.G f (first ++ [.yld H.n] ++ captured) (H.new (.obj vs (L .ready none))) fun _ H2 => LoopEnd C L vs k env H R H2) :
    ARun C (.code (.rangeFunc g ps.toArray assign body) :: k) env H R := by
  intro σ w a b cs m hb hpre
  have h := h (LoopS C.fid ps.toArray assign body) (slots C.nt env) ⟨_, _, _, _, rfl⟩ (fun y hy => by
    simp only [slots, List.mem_map] at hy
    obtain ⟨i, _, rfl⟩ := hy
    exact (hpre.fr.slot i).belowN) fun args H1 K h1 h2 h3 σ w vs hr hvs => AYield.of_round (raw := C.raw) h2 hps h1 (h3 hr.bel) σ w vs hr hvs
  have hro' : b.roundOf = none := by rw [hb.ro, hro]; rfl
  obtain ⟨r1, e1⟩ := rel_alloc hpre.rel (.deferred (some []))
  have hf1 := hpre.fr.mono e1
  have hus : RelVs σ H (w.alloc (.deferred (some []))) (slots C.nt env) a.tmps := ⟨by simp [slots, hpre.fr.size], fun i x v e1 e2 => by
    simp only [slots, List.getElem?_map, Option.map_eq_some_iff] at e1
    obtain ⟨j, hj, rfl⟩ := e1
    have hji : j = i := by
      have := List.getElem?_eq_some_iff.1 hj
      simpa using this.2.symm
    subst hji
    have := hf1.slot j
    simpa [Array.getD_eq_getD_getElem?, e2] using this⟩
  obtain ⟨r2, e2⟩ := rel_newObj r1 (.loop { state := .ready, pending := none, fn := C.fid, tmps := a.tmps, params := ps.toArray, assign, body, defers := w.heap.size }) rfl (slots C.nt env) a.tmps (LoopS C.fid ps.toArray assign body .ready none) hus ⟨_, rfl⟩
  have e12 := e1.trans e2 (Nat.le_refl _)
  generalize hw2 : (w.alloc (.deferred (some []))).alloc (.loop { state := .ready, pending := none, fn := C.fid, tmps := a.tmps, params := ps.toArray, assign, body, defers := w.heap.size }) = w2 at r2 e2 e12
  have hsz : (w.alloc (.deferred (some []))).heap.size = w.heap.size + 1 := by simp
  have henter : (Instr.enterLoop b.fn a.tmps ps.toArray assign body b.roundOf).run C.P w = .ok (w.heap.size + 1, [{ target := .collected w.heap.size, args := #[] }]) w2 := by
    rw [hro', run_enterLoop_outer, hb.fn, ← hw2]
  rw [hsz] at r2 e2 e12
  -- the call
  have hgv := aev_rel hpre.rel hpre.fr g
  rw [hg] at hgv
  generalize hv : a.eval g = gv at hgv
  have hgv2 := hgv.mono e12
  cases hgv2 with | clo fs css c1 c2 c3 c4 =>
  have hargs : RelVs (σ.withC H.n (w.heap.size + 1)) (H.new (.obj (slots C.nt env) (LoopS C.fid ps.toArray assign body .ready none))) w2 (first ++ [.yld H.n] ++ captured) (fs ++ #[.func (.yield (w.heap.size + 1)) #[] #[]] ++ css) := by
    refine RelVs.app (RelVs.app ⟨c1, c3⟩ ⟨rfl, fun i x v e1 e2 => ?_⟩) ⟨c2, c4⟩
    have hi : i = 0 := by
      have := (List.getElem?_eq_some_iff.1 e1).1
      simp at this; omega
    subst hi
    simp at e1 e2
    subst e1; subst e2
    have : (σ.withC H.n (w.heap.size + 1)).c H.n = w.heap.size + 1 := by simp [Gh.withC]
    have hh := RelV.yld (σ := σ.withC H.n (w.heap.size + 1)) (H := H.new (.obj (slots C.nt env) (LoopS C.fid ps.toArray assign body .ready none))) (w := w2) (b := H.n) (by simp [Hp.n_new])
    rwa [this] at hh
  have hres : (resolve a.eval (rangeCall g (w.heap.size + 1)) 0).run C.P w2 = .ok { target := .fn (.func f) css, args := fs ++ #[.func (.yield (w.heap.size + 1)) #[] #[]] } w2 := by
    have hc : a.eval (.const (.func (.yield (w.heap.size + 1)) #[] #[])) = .func (.yield (w.heap.size + 1)) #[] #[] := rfl
    simp [resolve, hv, hc, Deferred.ofValue]
  have hinv : (invoke (.fn (.func f) css) (fs ++ #[.func (.yield (w.heap.size + 1)) #[] #[]])).run C.P w2 = .ok (.enter f (fs ++ #[.func (.yield (w.heap.size + 1)) #[] #[]] ++ css)) w2 := by
    simp only [invoke]
    exact enters_inv he _ w2
  have hstep := stepR_rangeFunc (P := C.P) (b := b) (a := a) (k := k) (cs := cs) (w := w) henter hres hinv
  obtain ⟨e, w3, fr, ⟨rv, H3, σ3, v3, ⟨hbel, hend⟩, rfl, r3, hv3, e3⟩, hst3, hfn3, hlv3⟩ := h (σ.withC H.n (w.heap.size + 1)) w2 _ r2 hargs (b.atR { a with defers := [{ target := .collected w.heap.size, args := #[] }] ++ a.defers } (.inRangeFunc (w.heap.size + 1) :: k) :: cs)
  have hback := step_leave_returned (P := C.P) (c := b.atR { a with defers := [{ target := .collected w.heap.size, args := #[] }] ++ a.defers } (.inRangeFunc (w.heap.size + 1) :: k)) (cs := cs) hlv3
  rw [finish_atR_inRangeFunc] at hback
  have hlt3 : H.n < (H.new (.obj (slots C.nt env) (LoopS C.fid ps.toArray assign body .ready none))).n := by simp [Hp.n_new]
  have hc3 : σ3.c H.n = w.heap.size + 1 := by rw [e3.c _ hlt3]; simp [Gh.withC]
  have e13 : Ev H.n σ H w σ3 H3 w3 := e12.trans (e3.weaken (by simp [Hp.n_new])) (Nat.le_refl _)
  -- the mark's block
  have hfree0 : Free σ H w.heap.size := ⟨fun b' cs' h' => by have := hpre.rel.c_lt h'; omega, fun b' k' d o s h' ht => by have := hpre.rel.t_lt h' ht; omega, fun b' vs' S h' => by have := hpre.rel.o_lt h'; omega⟩
  have hmark2 : w2.heap[w.heap.size]? = some (.deferred (some [])) ∧ Free (σ.withC H.n (w.heap.size + 1)) (H.new (.obj (slots C.nt env) (LoopS C.fid ps.toArray assign body .ready none))) w.heap.size := by
    have := e2.blk w.heap.size (by omega) hfree0
    exact ⟨this.1.trans (World.alloc_heap_new w _), this.2⟩
  have hmark3 := e3.blk w.heap.size (heap_lt hmark2.1) hmark2.2
  have key : ∀ st pend, H3.f H.n = some (.obj (slots C.nt env) (LoopS C.fid ps.toArray assign body st pend)) → st ≠ .busy → ARun C ((pend.map Item.code).toList ++ k) env (H3.trunc H.n) R →
      ∃ r H' σ' v w' M, R r H' ∧ Steps C.P (lone (b.atR a (.code (.rangeFunc g ps.toArray assign body) :: k)) cs w) M ∧ Fin C cs w' v M ∧ Rel C.G σ' H' w' ∧ RelV σ' H' w' r v ∧ EvM C.n0 m σ H w σ' H' w' := by
    intro st pend hf hst hrun
    obtain ⟨o, us, q1, q2, q3, d, rfl⟩ := r3.objs H.n _ _ hf
    rw [hc3] at q1
    have hel := run_endLoop (P := C.P) q1 hst
    obtain ⟨r4, e4⟩ := rel_setObj r3 hf (by rw [hc3]; exact q1) q2 q3 (S' := LoopS C.fid ps.toArray assign body .exhausted pend) (o' := .loop { state := .exhausted, pending := pend, fn := C.fid, tmps := us, params := ps.toArray, assign, body, defers := d }) rfl ⟨d, rfl⟩
    rw [hc3] at r4 e4
    generalize hw4 : w3.putObj (w.heap.size + 1) (.loop { state := .exhausted, pending := pend, fn := C.fid, tmps := us, params := ps.toArray, assign, body, defers := d }) = w4 at r4 e4
    have hbel4 : Bel H.n (H3.set H.n (.obj (slots C.nt env) (LoopS C.fid ps.toArray assign body .exhausted pend))) := (Bel.set_hi (Nat.le_refl _)).2 hbel
    obtain ⟨r5, e5⟩ := trunc_rel r4 hbel4
    rw [Hp.trunc_set _ _ _ _ (Nat.le_refl _)] at r5 e5
    have e15 : Ev H.n σ H w σ3 (H3.trunc H.n) w4 := (e13.trans (e4.weaken e13.hn) (Nat.le_refl _)).trans e5 (Nat.le_refl _)
    have hmark4 := e4.blk w.heap.size (heap_lt (hmark3.1.trans hmark2.1)) hmark3.2
    have hmark5 := e5.blk w.heap.size (heap_lt (hmark4.1.trans (hmark3.1.trans hmark2.1))) hmark4.2
    have hfr := hpre.fr.mono e15
    have hfr' : RelF C.nt m σ3 (H3.trunc H.n) w4 env { a with defers := mark w.heap.size :: a.defers } := by
      obtain ⟨ms, d1, d2, d3⟩ := hfr.defers
      obtain ⟨ms0, f1, f2, f3⟩ := hpre.fr.defers
      have hms : ms = ms0 := by
        have := d1.symm.trans f1
        exact (List.map_inj_right (fun x y hxy => by simpa [mark] using hxy)).1 this
      subst hms
      refine ⟨⟨w.heap.size :: ms, by simp [d1], List.nodup_cons.2 ⟨fun hmem => ?_, d2⟩, fun r hr => ?_⟩, hfr.size, hfr.slot⟩
      · have := heap_lt (f3 _ hmem).2.1; omega
      · rcases List.mem_cons.1 hr with rfl | hr
        · exact ⟨hpre.m, hmark5.1.trans (hmark4.1.trans (hmark3.1.trans hmark2.1)), hmark5.2⟩
        · exact d3 r hr
    obtain ⟨r', H', σ', v', w', M, q, st', p1, p2, p3, p5⟩ := hrun σ3 w4 _ b cs m (hb.mono hpre.n0 e15.c hpre.lt) (hpre.go r5 hfr' e15)
    refine ⟨r', H', σ', v', w', M, q, ?_, p1, p2, p3, e15.transM p5 hpre.n0 hpre.m⟩
    refine .head hstep (Steps.trans hst3 (.head hback (.head (stepR_endRangeFunc (hel.trans (by rw [hw4]))) st')))
  rcases hend with ⟨hf, hrun⟩ | ⟨j, hf, hrun⟩
  · exact key .ready none hf (by simp) hrun
  · exact key .done (some j) hf (by simp) hrun
end stmt

section kinds
variable {fl : Bool} {sz n a v b off len i sub : Nat} {xs : List PV} {f : FuncId} {x y : List AV}
theorem acells_psl : acells (.p (.sl fl sz xs)) = some [.p (.sl fl sz xs)] := rfl
theorem acells_sl : acells (.sl a v sz xs) = some [.sl a v sz xs] := rfl
theorem acells_ref : acells (.ref b off len sz) = some [.ref b off len sz] := rfl
theorem acells_ptr : acells (.ptr b off) = some [.ptr b off] := rfl
theorem acells_ip : acells (.ip sz xs i sub) = some [.ip sz xs i sub] := rfl
theorem acells_clo : acells (.clo f x y) = some [.clo f x y] := rfl
theorem acells_yld : acells (.yld b) = some [.yld b] := rfl
theorem isAgg_sl : (PV.sl fl sz xs).isAgg = false := rfl
theorem mkElem_sl : mkElem false [.p (.sl fl sz xs)] = some (.sl fl sz xs) := rfl
theorem aggOf_whole (h : xs.length = n) : (PV.agg xs).aggOf 0 n = .agg xs := by
  subst h
  simp [PV.aggOf, PV.isAgg, PV.cells]
end kinds
attribute [go_sem] acells_psl acells_sl acells_ref acells_ptr acells_ip acells_clo acells_yld isAgg_sl mkElem_sl aggOf_whole

theorem pi64 {a b : Int} (h : a = b) : AV.p (i64 a) = AV.p (i64 b) := by rw [h]

/-! ### Heaps with blocks on top; the slots of a round; what rows hold -/

/-- A heap with blocks on top of it. -/
def app (H : Hp) (T : List AB) : Hp := T.foldl Hp.new H

section app
variable {H : Hp} {b c : Nat} {x : AB} {T : List AB}
theorem app_nil : app H [] = H := rfl
theorem app_cons : app H (x :: T) = app (H.new x) T := rfl
theorem app_n' : (app H T).n = H.n + T.length := by
  induction T generalizing H with
  | nil => rfl
  | cons y T ih => rw [app_cons, ih, n_new', List.length_cons]; omega
theorem app_f (h : b < H.n) : (app H T).f b = H.f b := by
  induction T generalizing H with
  | nil => rfl
  | cons y T ih => rw [app_cons, ih (by rw [n_new']; omega), f_new_ne (by omega)]
theorem app_set (h : b < H.n) : (app H T).set b x = app (H.set b x) T := by
  induction T generalizing H with
  | nil => rfl
  | cons y T ih => rw [app_cons, ih (by rw [n_new']; omega), set_new_ne h, app_cons]
theorem app_trunc (h : b ≤ H.n) : (app H T).trunc b = H.trunc b := by
  induction T generalizing H with
  | nil => rfl
  | cons y T ih => rw [app_cons, ih (by rw [n_new']; omega), trunc_new' h]
theorem new_app : (H.new x) = app H [x] := rfl
theorem app_app {S : List AB} : app (app H T) S = app H (T ++ S) := by simp [app]
end app

/-- The first slots of a frame. -/
def cutEnv (nt : Nat) (env : Env) : Env := fun i => if i < nt then env i else .tup []
theorem cutEnv_lt {nt i : Nat} {env : Env} (h : i < nt) : cutEnv nt env i = env i := by simp [cutEnv, h]
theorem renv_def {nt : Nat} {env : Env} {ps : List Nat} {args : List AV} : renv nt env ps args = putArgs ps args (cutEnv nt env) := rfl
theorem putArgs_nil {xs : List AV} {e : Env} : putArgs [] xs e = e := by cases xs <;> rfl
theorem putArgs_cons {p : Nat} {ps : List Nat} {x : AV} {xs : List AV} {e : Env} : putArgs (p :: ps) (x :: xs) e = putArgs ps xs (e.put (some p) x) := rfl
attribute [go_sem] app_f app_set app_trunc app_n' cutEnv_lt renv_def putArgs_nil putArgs_cons

theorem BelowN.mono {n m : Nat} (h : n ≤ m) {x : AV} (r : BelowN n x) : BelowN m x := by
  induction r with
  | p x => exact .p x
  | sl a v sz xs h1 => exact .sl _ _ _ _ (by omega)
  | ref b off len sz h1 => exact .ref _ _ _ _ (by omega)
  | ptr b off h1 => exact .ptr _ _ (by omega)
  | ip sz xs i sub => exact .ip _ _ _ _
  | clo fn a c _ _ ih1 ih2 => exact .clo _ _ _ ih1 ih2
  | tup xs _ ih => exact .tup _ ih
  | agg xs _ ih => exact .agg _ ih
  | yld b h1 => exact .yld _ (by omega)
  | vr b _ _ h1 => exact .vr _ _ _ (by omega)
  | vp b _ _ h1 => exact .vp _ _ _ (by omega)
  | top => exact .top

section bel
variable {n m b : Nat} {H : Hp} {x : AB} {α : Type} {f : α → PV} {l : List α} {T : List AB}
theorem bel_mono (h : Bel m H) (hm : H.n ≤ m) (hn : m ≤ n) : Bel n H := fun b x _ hf y hy => (h b x (Nat.lt_of_lt_of_le (Hp.lt hf) hm) hf y hy).mono hn
theorem bel_start (h : Bel H.n H) (hn : H.n ≤ n) : Bel n H := bel_mono h (Nat.le_refl _) hn
theorem bel_newx (h : Bel n H) (hx : ∀ y ∈ x.vals, BelowN n y) : Bel n (H.new x) := fun b z hb hf y hy => by
  rw [Hp.f_new] at hf
  split at hf
  · cases hf; exact hx y hy
  · exact h b z hb hf y hy
theorem bel_newc (h : Bel n H) : Bel n (H.new (.cells (cl f l))) := bel_newx h fun y hy => by
  simp only [AB.vals, cl, List.mem_map] at hy
  obtain ⟨a, _, rfl⟩ := hy
  exact .p _
theorem bel_newp {z : PV} (h : Bel n H) : Bel n (H.new (.cells [.p z])) := bel_newx h fun y hy => by
  simp only [AB.vals, List.mem_singleton] at hy
  subst hy; exact .p _
theorem bel_newt {k : Nat} (h : Bel n H) : Bel n (H.new (.tail k)) := bel_newx h fun y hy => by simp [AB.vals] at hy
theorem bel_newo {vs : List AV} {S : Array Value → Obj → Prop} (hv : ∀ y ∈ vs, BelowN m y) (h : Bel n H) (hm : m ≤ n) : Bel n (H.new (.obj vs S)) := bel_newx h fun y hy => (hv y hy).mono hm
theorem bel_setx (h : Bel n H) (hx : ∀ y ∈ x.vals, BelowN n y) : Bel n (H.set b x) := fun c z hb hf y hy => by
  rw [Hp.f_set] at hf
  split at hf
  · cases hf; exact hx y hy
  · exact h c z hb hf y hy
theorem bel_setp {z : PV} (h : Bel n H) : Bel n (H.set b (.cells [.p z])) := bel_setx h fun y hy => by
  simp only [AB.vals, List.mem_singleton] at hy
  subst hy; exact .p _
theorem bel_sett {k : Nat} (h : Bel n H) : Bel n (H.set b (.tail k)) := bel_setx h fun y hy => by simp [AB.vals] at hy
theorem bel_app {H' : Hp} (h : Bel n (app H T)) (hn : H'.n = H.n) (hle : H.n + T.length ≤ n) (h' : Bel n H') : Bel n (app H' T) := by
  induction T generalizing H H' with
  | nil => exact h'
  | cons y T ih =>
    rw [List.length_cons] at hle
    exact ih (H := H.new y) (H' := H'.new y) h (by rw [n_new', n_new', hn]) (by rw [n_new']; omega) (bel_newx h' fun z hz => h H.n y (by omega) (by rw [app_cons, app_f (by rw [n_new']; omega), f_new_eq rfl]) z hz)
end bel

end Go.AL
