/-
  A slice compared with nil.
  Conditions: none; nothing here speaks of one program.
-/
import Derived.Test.YtkpeknkpleocgaaDoorEngP
import Derived.Laws.Cover3
set_option linter.unusedSimpArgs false
set_option linter.unusedVariables false
namespace Go.AL
open Go

section
variable {C : Cx} {k : List Item} {env : Env} {H : Hp} {R : AV → Hp → Prop} {ops : Array Oper} {rest : List Oper}

/-- An operation in the text's order, by its step. -/
theorem AOps.one {o : Oper} (hg : o.guard = none) {x : AV} {H' : Hp} (hs : stepOp C.P C.G o.op o.type env H = .val x H') (hd : dstOK C.nt o.dst = true) (h : AOps C ops rest k (env.put o.dst x) H' R) : AOps C ops (o :: rest) k env H R :=
  .of_op true (by rw [hg]; rfl) fun σ w a m hpre K Q hK => aOp1.wp (K := fun y H2 => y = x ∧ H2 = H') (by unfold aOp1; rw [hs]; exact ⟨hd, rfl, rfl⟩) hpre.rel hpre.fr fun y v H2 σ' w' ⟨e1, e2⟩ q1 q2 q3 q4 => by
    subst e1 e2; exact hK _ v _ σ' w' h q1 q2 q3 q4

/-- Is the slice nil? If it holds something, it is not; else that is open. -/
theorem AOps.isNil {dst : Option Nat} {t t' ty : TypeId} {pos : String} {after : Array Edge} {x : Operand} {e : TypeId} (hu : C.P.underlying t = some (.slice e)) {fl : Bool} {sz : Nat} {xs : List PV} (hx : aev C.G env x = .p (.sl fl sz xs)) (hd : dstOK C.nt dst = true)
    (h : ∀ b : Bool, (b = true → xs = []) → AOps C ops rest k (env.put dst (.p (bo b))) H R) :
    AOps C ops (⟨dst, .binOp .eql t x (.const (.slice none 0 0)) t', ty, pos, after, none⟩ :: rest) k env H R := by
  refine .of_op true rfl fun σ w a m hpre K Q hK => ?_
  have hr := aev_rel hpre.rel hpre.fr x
  rw [hx] at hr
  have key : ∀ (ad : Option Addr) (l c : Nat), a.eval x = .slice ad l c → (ad.isNone = true → xs = []) →
      (⟨dst, .binOp .eql t x (.const (.slice none 0 0)) t', ty, pos, after, none⟩ : Oper).wpIn (Fr C σ) 0 C.P a w K Q := by
    intro ad l c hv hn
    unfold Oper.wpIn
    refine ⟨fun f _ => trivial, ?_⟩
    have hsem : Oper.semAt (Fr C σ).round a.eval ⟨dst, .binOp .eql t x (.const (.slice none 0 0)) t', ty, pos, after, none⟩ = execOp a.eval ⟨dst, .binOp .eql t x (.const (.slice none 0 0)) t', ty, pos, after, none⟩ := Oper.semAt_eq _ _ _ (fun c h => by cases h)
    rw [hsem]
    have he : (execOp a.eval ⟨dst, .binOp .eql t x (.const (.slice none 0 0)) t', ty, pos, after, none⟩).run C.P w = .ok (.value (.bool ad.isNone)) w := by
      have hc : a.eval (.const (.slice none 0 0)) = .slice none 0 0 := rfl
      simp only [execOp, hv, hc]
      have hg := eqGuard_plain (P := C.P) (w := w) (op := .eql) (t := t) (xo := x) (yo := .const (.slice none 0 0)) (a := .slice ad l c) (b := .slice none 0 0) (by simp) (by simp)
      simp only [Sem.run_bind, hg, Result.andThen_ok, binOp, run_equal_slice_nil w t e ad l c hu, Sem.run_pure]
    rw [he]
    exact hK (.p (bo ad.isNone)) (.bool ad.isNone) H σ w (h ad.isNone hn) (dstOK_spec hd) hpre.rel (.p (.s _ rfl)) (Ev.refl (Nat.le_refl _))
  generalize hv : a.eval x = v at hr
  cases hr with | p hp =>
  cases hp with
  | nil => exact key none 0 0 hv fun _ => rfl
  | sl _ _ _ g off cap f => exact key (some ⟨g, off, none⟩) xs.length cap hv fun hh => by cases hh
end
/-- A value all of whose names are below n0 is the same value later, as seen by whoever knows of the first n0 names only. -/
theorem RelV.low {σ σ' : Gh} {H H' : Hp} {w w' : World} {n0 m : Nat} (h : EvM n0 m σ H w σ' H' w') {x : AV} {v : Value} (r : RelV σ H w x v) : BelowN n0 x → RelV σ' H' w' x v := by
  induction r with
  | p hp => exact fun _ => .p (hp.mono h.cell)
  | sl hp ht =>
    intro hb
    cases hb with | sl _ _ _ _ hb =>
    refine .sl (hp.mono h.cell) ⟨Nat.lt_of_lt_of_le hb h.hn, fun k' d' hk' => ?_⟩
    obtain ⟨k0, d0, e0, l0, q0⟩ := h.t _ hb k' d' hk'
    obtain ⟨l1, q1⟩ := ht.2 k0 d0 e0
    refine ⟨Nat.le_trans l1 l0, fun hkk => ?_⟩
    rw [q0 (by omega)]
    exact q1 (by omega)
  | ref a h0 _ hcap ha => intro hb; cases hb with | ref _ _ _ _ hb => exact .ref a h0 (Nat.lt_of_lt_of_le hb h.hn) hcap (fun hl => by rw [h.c _ hb]; exact ha hl)
  | ptr _ => intro hb; cases hb with | ptr _ _ hb => rw [← h.c _ hb]; exact .ptr (Nat.lt_of_lt_of_le hb h.hn)
  | ip hp hi hs => exact fun _ => .ip (hp.mono h.cell) hi hs
  | clo fs cs hf hc _ _ ih1 ih2 => intro hb; cases hb with | clo _ _ _ h1 h2 => exact .clo fs cs hf hc (fun i x v a b => ih1 i x v a b (h1 i x a)) (fun i x v a b => ih2 i x v a b (h2 i x a))
  | tup vs hl _ ih => intro hb; cases hb with | tup _ h => exact .tup vs hl (fun i x v a b => ih i x v a b (h i x a))
  | agg vs hl h1 _ ih => intro hb; cases hb with | agg _ h => exact .agg vs hl h1 (fun i x v a b => ih i x v a b (h i x a))
  | yld _ => intro hb; cases hb with | yld _ hb => rw [← h.c _ hb]; exact .yld (Nat.lt_of_lt_of_le hb h.hn)
  | vr q =>
    intro hb
    cases hb with | vr _ _ _ hb =>
    obtain ⟨_, a, cap, rfl, q1, q2⟩ := q
    refine .vr ⟨Nat.lt_of_lt_of_le hb h.hn, a, cap, rfl, q1, fun k' d' hk' => ?_⟩
    obtain ⟨k0, d0, e0, l0, q0⟩ := h.t _ hb k' d' hk'
    obtain ⟨l1, q1⟩ := q2 k0 d0 e0
    refine ⟨Nat.le_trans l1 l0, fun hkk => ?_⟩
    rw [q0 (by omega)]
    exact q1 (by omega)
  | vp a q =>
    intro hb
    cases hb with | vp _ _ _ hb =>
    refine .vp a ⟨Nat.lt_of_lt_of_le hb h.hn, fun k' d' hk' => ?_⟩
    obtain ⟨k0, d0, e0, l0, q0⟩ := h.t _ hb k' d' hk'
    obtain ⟨l1, q1⟩ := q.2 k0 d0 e0
    refine ⟨Nat.le_trans l1 l0, fun hkk => ?_⟩
    rw [q0 (by omega)]
    exact q1 (by omega)
  | top v => exact fun _ => .top v

/-- All names of n0 or above are forgotten but one tail, which takes the name n0. -/
theorem rel_keepTail {G : Globs} {σ : Gh} {H : Hp} {w : World} (hr : Rel G σ H w) {n0 α k : Nat} (hb : Bel n0 H) (hα : H.f α = some (.tail k)) (hge : n0 ≤ α) :
    Rel G (σ.withT n0 (σ.t α)) ((H.trunc n0).new (.tail 0)) w ∧ Ev n0 σ H w (σ.withT n0 (σ.t α)) ((H.trunc n0).new (.tail 0)) w := by
  have hold : ∀ b, b < n0 → (σ.withT n0 (σ.t α)).t b = σ.t b := fun b hb => by simp [Gh.withT, Nat.ne_of_lt hb]
  have hnew : (σ.withT n0 (σ.t α)).t n0 = σ.t α := by simp [Gh.withT]
  have fcells : ∀ b x, ((H.trunc n0).new (.tail 0)).f b = some (.cells x) → H.f b = some (.cells x) ∧ b < n0 := by
    intro b x h
    rw [Hp.f_new] at h
    split at h
    · cases h
    · rw [Hp.f_trunc] at h
      split at h
      · exact ⟨h, by assumption⟩
      · cases h
  have ftail : ∀ b k' d, ((H.trunc n0).new (.tail 0)).f b = some (.tl k' d) → (b = n0 ∧ k' = 0 ∧ d = none) ∨ (H.f b = some (.tl k' d) ∧ b < n0) := by
    intro b x d h
    rw [Hp.f_new] at h
    split at h
    · rename_i hh; cases h; exact .inl ⟨hh, rfl, rfl⟩
    · rw [Hp.f_trunc] at h
      split at h
      · exact .inr ⟨h, by assumption⟩
      · cases h
  have fobj : ∀ b vs S, ((H.trunc n0).new (.tail 0)).f b = some (.obj vs S) → H.f b = some (.obj vs S) ∧ b < n0 := by
    intro b vs S h
    rw [Hp.f_new] at h
    split at h
    · cases h
    · rw [Hp.f_trunc] at h
      split at h
      · exact ⟨h, by assumption⟩
      · cases h
  have hev : Ev n0 σ H w (σ.withT n0 (σ.t α)) ((H.trunc n0).new (.tail 0)) w := by
    refine ⟨fun g o v h1 h2 => ⟨⟨fun b x h => h1.1 b x (fcells _ _ h).1, fun b k' d o' s h ht => ?_⟩, h2⟩, fun _ _ => rfl, by simp [Hp.n_new, Hp.n_trunc], fun b hb k' d hk => ?_, Nat.le_refl _,
      fun g hg hf => ⟨rfl, fun b x h => hf.1 b x (fcells _ _ h).1, fun b k' d o s h => ?_, fun b vs S h => hf.3 b vs S (fobj _ _ _ h).1⟩, rfl, rfl⟩
    · rcases ftail b k' d h with ⟨rfl, rfl, rfl⟩ | ⟨h, hlt⟩
      · rw [hnew] at ht; exact h1.2 α k _ o' s hα ht
      · rw [hold b hlt] at ht; exact h1.2 b k' d o' s h ht
    · rcases ftail b k' d hk with ⟨rfl, _⟩ | ⟨h, hlt⟩
      · omega
      · exact ⟨k', d, h, Nat.le_refl _, fun _ => hold b hb⟩
    · rcases ftail b k' d h with ⟨rfl, rfl, rfl⟩ | ⟨h, hlt⟩
      · rw [hnew]; exact hf.2 α k _ o s hα
      · rw [hold b hlt]; exact hf.2 b k' d o s h
  refine ⟨⟨fun b x h => ?_, fun b k' d g o s h ht => ?_, fun b k' cs h => ?_, fun b1 b2 x y h1 h2 => hr.cc b1 b2 x y (fcells _ _ h1).1 (fcells _ _ h2).1, fun b1 b2 x k' d g o s h1 h2 ht => ?_, fun b1 b2 k1 d1 k2 d2 g o s o' s' h1 h2 ht ht' => ?_, fun g sz xs h => (hr.glob g sz xs h).low hev (.ip _ _ _ _), fun b vs S h => ?_, fun b b' vs vs' S S' h h' => hr.oo b b' vs vs' S S' (fobj _ _ _ h).1 (fobj _ _ _ h').1⟩, hev⟩
  · obtain ⟨h, hlt⟩ := fcells _ _ h
    obtain ⟨c, e, q1, q2, q3⟩ := hr.cells b x h
    exact ⟨c, e, q1, q2, fun i y hy => let ⟨v, a, q⟩ := q3 i y hy; ⟨v, a, q.1.low hev (hb b _ hlt h y (List.mem_of_getElem? hy)), q.2⟩⟩
  · rcases ftail b k' d h with ⟨rfl, rfl, rfl⟩ | ⟨h, hlt⟩
    · rw [hnew] at ht; exact hr.tail α k _ g o s hα ht
    · rw [hold b hlt] at ht; exact hr.tail b k' d g o s h ht
  · rcases ftail b k' _ h with ⟨rfl, _, hd⟩ | ⟨h, hlt⟩
    · cases hd
    · rw [hold b hlt]
      obtain ⟨q0, q1, q2⟩ := hr.vec b k' cs h
      refine ⟨q0, q1, fun g o s hg => ?_⟩
      obtain ⟨p0, p1, p2⟩ := q2 g o s hg
      exact ⟨p0, p1, fun i x hx => let ⟨v, a, b'⟩ := p2 i x hx; ⟨v, a, b'.1.low hev (hb b _ hlt h x (List.mem_of_getElem? hx)), b'.2⟩⟩
  · have h1' := (fcells _ _ h1).1
    rcases ftail b2 k' d h2 with ⟨rfl, rfl, rfl⟩ | ⟨h, hlt⟩
    · rw [hnew] at ht; exact hr.ct b1 α x k _ g o s h1' hα ht
    · rw [hold b2 hlt] at ht; exact hr.ct b1 b2 x k' d g o s h1' h ht
  · rcases ftail b1 k1 d1 h1 with ⟨rfl, rfl, rfl⟩ | ⟨p1, l1⟩ <;> rcases ftail b2 k2 d2 h2 with ⟨rfl, rfl, rfl⟩ | ⟨p2, l2⟩
    · rfl
    · rw [hnew] at ht; rw [hold b2 l2] at ht'
      have := hr.tt α b2 k _ k2 _ g o s o' s' hα p2 ht ht'; omega
    · rw [hnew] at ht'; rw [hold b1 l1] at ht
      have := hr.tt b1 α k1 _ k _ g o s o' s' p1 hα ht ht'; omega
    · rw [hold b1 l1] at ht; rw [hold b2 l2] at ht'
      exact hr.tt b1 b2 k1 _ k2 _ g o s o' s' p1 p2 ht ht'
  · obtain ⟨h, hlt⟩ := fobj _ _ _ h
    obtain ⟨o, us, q1, q2, q3, q4⟩ := hr.objs b vs S h
    exact ⟨o, us, q1, q2, ⟨q3.1, fun i x v a b' => (q3.2 i x v a b').low hev (hb b _ hlt h x (List.mem_of_getElem? a))⟩, q4⟩

section ret
variable {C : Cx} {k : List Item} {env : Env} {H : Hp} {R : AV → Hp → Prop}

/-- The function returns a slice of its own, with the room behind it; all else that it named for itself is forgotten. -/
theorem ARun.retOwn {fn : Func} {α v sz : Nat} {xs : List PV} (hfn : C.P.funcs[C.fid]? = some fn) {rs : List ResultVar} (hrs : fn.results.toList = rs) (hx : ares C.P rs env H = some (.sl α v sz xs)) (hα : H.f α = some (.tail v)) (hge : C.n0 ≤ α) (hb : Bel C.n0 H)
    (hR : R (.sl C.n0 0 sz xs) ((H.trunc C.n0).new (.tail 0))) (hro : C.round = none := by rfl) : ARun C (.code .ret :: k) env H R := by
  refine .leave hro hfn hrs hx _ (fun _ _ _ _ h => stepR_ret h) _ _ hR fun σ w u h1 h2 _ => ?_
  obtain ⟨q1, q3⟩ := rel_keepTail h1 hb hα hge
  refine ⟨_, q1, ?_, q3⟩
  cases h2 with | sl hp ht =>
  refine .sl (hp.mono q3.cell) ⟨by simp [Hp.n_new, Hp.n_trunc], fun k0 d hk0 => ?_⟩
  have e0 : k0 = 0 := by simp [Hp.f_new, Hp.n_trunc] at hk0; omega
  subst e0
  refine ⟨Nat.le_refl _, fun _ => ?_⟩
  have := (ht.2 v _ hα).2 rfl
  simpa [Gh.withT] using this
end ret
end Go.AL
