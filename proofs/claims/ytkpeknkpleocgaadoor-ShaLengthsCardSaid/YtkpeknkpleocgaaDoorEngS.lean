/-
  Rows that are written no more become plain data.
  Conditions: none; nothing here speaks of one program.
-/
import Derived.Test.YtkpeknkpleocgaaDoorEngR
import Derived.Lib.SlBytesConst
set_option linter.unusedSimpArgs false
set_option linter.unusedVariables false
namespace Go.AL
open Go

/-- Another reading of the same state. -/
theorem ARun.ghost {C : Cx} {todo : List Item} {env env' : Env} {H H' : Hp} {R : AV → Hp → Prop}
    (hg : ∀ σ w a m, Pre C σ H w env a m → ∃ σ', Rel C.G σ' H' w ∧ (∀ i, RelV σ' H' w (env' i) (a.tmps.getD i undef)) ∧ Ev H.n σ H w σ' H' w) (h : ARun C todo env' H' R) : ARun C todo env H R := by
  intro σ w a b cs m h1 hpre
  obtain ⟨σ', hr, hs, hev⟩ := hg σ w a m hpre
  have h4 := hpre.fr.mono hev
  obtain ⟨r, H2, σ2, v, w2, M, q, st, q1, q2, q3, q5⟩ := h σ' w a b cs m (h1.mono hpre.n0 hev.c hpre.lt) (hpre.go hr ⟨h4.defers, h4.size, hs⟩ hev)
  exact ⟨r, H2, σ2, v, w2, M, q, st, q1, q2, q3, hev.transM q5 hpre.n0 hpre.m⟩

section states
variable {G : Globs} {σ : Gh} {H : Hp} {w : World}

/-- A name is given up. -/
theorem rel_dead (hr : Rel G σ H w) (b : Nat) : Rel G σ (H.set b .dead) w ∧ Ev H.n σ H w σ (H.set b .dead) w := by
  have hf : ∀ b' x, x ≠ .dead → (H.set b .dead).f b' = some x → H.f b' = some x := by
    intro b' x hx h
    rw [Hp.f_set] at h
    split at h
    · cases h; exact absurd rfl hx
    · exact h
  have fc : ∀ b' x, (H.set b .dead).f b' = some (.cells x) → H.f b' = some (.cells x) := fun b' x h => hf b' _ (by simp) h
  have ft : ∀ b' k d, (H.set b .dead).f b' = some (.tl k d) → H.f b' = some (.tl k d) := fun b' x d h => hf b' _ (by simp) h
  have fo : ∀ b' vs S, (H.set b .dead).f b' = some (.obj vs S) → H.f b' = some (.obj vs S) := fun b' x _ h => hf b' _ (by simp) h
  have hev : Ev H.n σ H w σ (H.set b .dead) w :=
    ⟨fun g o v h1 h2 => ⟨⟨fun b' x h => h1.1 b' x (fc _ _ h), fun b' k d o2 s h => h1.2 b' k d o2 s (ft _ _ _ h)⟩, h2⟩, fun _ _ => rfl, Nat.le_refl _, fun b' _ k d hk => ⟨k, d, ft b' k d hk, Nat.le_refl _, fun _ => rfl⟩, Nat.le_refl _,
      fun g _ hg => ⟨rfl, fun b' x h => hg.1 b' x (fc _ _ h), fun b' k d o2 s h => hg.2 b' k d o2 s (ft _ _ _ h), fun b' vs S h => hg.3 b' vs S (fo _ _ _ h)⟩, rfl, rfl⟩
  refine ⟨⟨fun b' x h => ?_, fun b' k d g o s h ht => hr.tail b' k d g o s (ft _ _ _ h) ht, hr.vec_keep hev (fun b' k ds h => ⟨ft _ _ _ h, rfl⟩) (fun _ _ _ _ _ _ _ _ _ => rfl), fun b1 b2 x y h1 h2 => hr.cc b1 b2 x y (fc _ _ h1) (fc _ _ h2), fun b1 b2 x k d g o s h1 h2 => hr.ct b1 b2 x k d g o s (fc _ _ h1) (ft _ _ _ h2),
    fun b1 b2 k d k' d' g o s o' s' h1 h2 => hr.tt b1 b2 k d k' d' g o s o' s' (ft _ _ _ h1) (ft _ _ _ h2), hr.glob_mono hev, fun b' vs S h => ?_, fun b1 b2 v1 v2 S1 S2 h1 h2 => hr.oo b1 b2 v1 v2 S1 S2 (fo _ _ _ h1) (fo _ _ _ h2)⟩, hev⟩
  · obtain ⟨c, e, q1, q2, q3⟩ := hr.cells b' x (fc _ _ h)
    exact ⟨c, e, q1, q2, fun i y hy => let ⟨v, p, q⟩ := q3 i y hy; ⟨v, p, q.mono hev⟩⟩
  · obtain ⟨o, us, q1, q2, q3, q4⟩ := hr.objs b' vs S (fo _ _ _ h)
    exact ⟨o, us, q1, q2, q3.mono hev, q4⟩

/-- The cells of a row that is given up lie still. -/
theorem stable_dead (hr : Rel G σ H w) {b : Nat} {cs : List AV} (hb : H.f b = some (.cells cs)) (o : Nat) : Stable σ (H.set b .dead) (σ.c b) o := by
  have hf : ∀ b' x, x ≠ .dead → (H.set b .dead).f b' = some x → b' ≠ b ∧ H.f b' = some x := by
    intro b' x hx h
    rw [Hp.f_set] at h
    split at h
    · cases h; exact absurd rfl hx
    · rename_i hh
      exact ⟨fun e => hh ⟨e, Hp.lt hb⟩, h⟩
  refine ⟨fun b' x h e => ?_, fun b' k d o2 s h ht => ?_⟩
  · obtain ⟨h1, h2⟩ := hf b' _ (by simp) h
    exact h1 (hr.cc b' b x cs h2 hb e)
  · obtain ⟨h1, h2⟩ := hf b' _ (by simp) h
    exact absurd rfl (hr.ct b b' cs k _ _ o2 s hb h2 ht)

/-- The cells of a row, read as plain data. -/
theorem dead_cells (hr : Rel G σ H w) {b : Nat} {ps : List PV} (hb : H.f b = some (.cells (ps.map .p))) : ∃ f : Nat → Value, ∀ k y, ps[k]? = some y →
    Stable σ (H.set b .dead) (σ.c b) k ∧ w.cell? ⟨σ.c b, k, none⟩ = some (f k) ∧ (f k).oneCell' = true ∧ RelP w (Stable σ (H.set b .dead)) y (f k) := by
  obtain ⟨c, e, q1, q2, q3⟩ := hr.cells b _ hb
  obtain ⟨_, hev⟩ := rel_dead hr b
  refine ⟨fun k => (c[k]?).getD undef, fun k y hy => ?_⟩
  obtain ⟨v, p1, p2⟩ := q3 k (.p y) (by simp [hy])
  refine ⟨stable_dead hr hb k, by simp [World.cell?, q1, p1], by simpa [p1] using p2.2, ?_⟩
  have := p2.1.mono hev
  cases this with | p hp => simpa [p1] using hp
end states

theorem flat_ones : ∀ {ps : List PV}, (∀ y ∈ ps, y.cells = [y]) → flat ps = ps
  | [], _ => rfl
  | a :: ps, h => by show a.cells ++ flat ps = _; rw [h a (by simp), flat_ones (fun y hy => h y (by simp [hy]))]; rfl

section freeze
variable {C : Cx} {todo : List Item} {env : Env} {H : Hp} {R : AV → Hp → Prop} {α : Type} {f : α → PV} {l : List α}

/-- The array behind a pointer is written no more. -/
theorem ARun.frzP (t : Nat) {b : Nat} (ht : env t = .ptr b 0) (hb : H.f b = some (.cells (cl f l))) (_hf : ∀ x, (f x).cells = [f x]) (hl : 0 < l.length)
    (h : ARun C todo (env.put (some t) (.ip l.length [.agg (pl f l)] 0 0)) (H.set b .dead) R) : ARun C todo env H R :=
  .ghost (fun σ w a m hpre => by
    rw [← pl_p] at hb
    obtain ⟨r1, e1⟩ := rel_dead hpre.rel b
    obtain ⟨F, hF⟩ := dead_cells hpre.rel hb
    refine ⟨σ, r1, fun i => ?_, e1⟩
    simp only [Env.put]
    by_cases hi : i = t
    · subst hi
      rw [if_pos rfl]
      have hs := hpre.fr.slot i
      rw [ht] at hs
      generalize a.tmps.getD i undef = v at hs
      cases hs with | ptr hbn =>
      have hlen : (pl f l).length = l.length := pl_len
      have hget : ∀ k, k < l.length → ∃ y, (pl f l)[k]? = some y := fun k hk => ⟨_, List.getElem?_eq_getElem (by rw [hlen]; exact hk)⟩
      have := RelV.ip (σ := σ) (H := H.set b .dead) (w := w) (sz := l.length) (xs := [.agg (pl f l)]) (i := 0) (sub := 0) (g := σ.c b) (off := 0) (cap := 1)
        (.sl false _ _ _ 0 1 F (by simp) ⟨by simp, by unfold maxLen; omega⟩ (fun x hx => by simp only [List.mem_singleton] at hx; subst hx; exact hlen)
          (fun k hk => by
            simp only [List.length_singleton, Nat.one_mul] at hk
            obtain ⟨y, hy⟩ := hget k hk
            obtain ⟨p1, p2, p3, _⟩ := hF k y hy
            rw [Nat.zero_add]; exact ⟨p1, p2, p3⟩)
          (fun k y hy => by
            have : flat [PV.agg (pl f l)] = pl f l := by simp [flat, PV.cells]
            rw [this] at hy
            exact (hF k y hy).2.2.2)) (by simp) hl
      simpa using this
    · rw [if_neg hi]; exact (hpre.fr.slot i).mono e1) h

/-- The row behind a slice is written no more. -/
theorem ARun.frzS (t : Nat) {b off len : Nat} (ht : env t = .ref b off len 1) (hb : H.f b = some (.cells (cl f l))) (hf : ∀ x, (f x).cells = [f x]) (hl : off + len ≤ l.length)
    (h : ARun C todo (env.put (some t) (.p (.sl false 1 (pl f ((l.drop off).take len))))) (H.set b .dead) R) : ARun C todo env H R :=
  .ghost (fun σ w a m hpre => by
    rw [← pl_p] at hb
    obtain ⟨r1, e1⟩ := rel_dead hpre.rel b
    obtain ⟨F, hF⟩ := dead_cells hpre.rel hb
    refine ⟨σ, r1, fun i => ?_, e1⟩
    simp only [Env.put]
    by_cases hi : i = t
    · subst hi
      rw [if_pos rfl]
      have hs := hpre.fr.slot i
      rw [ht] at hs
      generalize a.tmps.getD i undef = v at hs
      cases hs with | ref ad h0 hbn hcap ha =>
      obtain ⟨g, o, rfl⟩ := h0
      have hlen : (pl f ((l.drop off).take len)).length = len := by rw [pl_len, List.length_take, List.length_drop]; omega
      have hget : ∀ k, k < len → ∃ y, (pl f l)[off + k]? = some y ∧ (pl f ((l.drop off).take len))[k]? = some y := fun k hk => by
        refine ⟨_, List.getElem?_eq_getElem (by rw [pl_len]; omega), ?_⟩
        rw [← pl_take, ← pl_drop, List.getElem?_take_of_lt hk, List.getElem?_drop]
        exact List.getElem?_eq_getElem _
      have hone : ∀ y ∈ pl f ((l.drop off).take len), y.cells = [y] := fun y hy => by
        simp only [pl, List.mem_map] at hy
        obtain ⟨x, _, rfl⟩ := hy
        exact hf x
      have key := RelP.sl (w := w) (S := Stable σ (H.set b .dead)) false 1 (pl f ((l.drop off).take len)) g o _ (fun k => F (off + k)) (by simp) ⟨by rw [hlen]; exact hcap.1, hcap.2⟩ (fun y hy => by rw [hone y hy]; rfl)
        (fun k hk => by
          rw [hlen, Nat.mul_one] at hk
          obtain ⟨y, hy, _⟩ := hget k hk
          obtain ⟨p1, p2, p3, _⟩ := hF _ y hy
          have := ha (by omega)
          cases this
          exact ⟨stable_dead hpre.rel hb _, p2, p3⟩)
        (fun k y hy => by
          rw [flat_ones hone] at hy
          have hk := (List.getElem?_eq_some_iff.1 hy).1
          rw [hlen] at hk
          obtain ⟨y', h1, h2⟩ := hget k hk
          rw [h2] at hy; cases hy
          exact (hF _ _ h1).2.2.2)
      rw [hlen] at key
      exact .p key
    · rw [if_neg hi]; exact (hpre.fr.slot i).mono e1) h

theorem bel_setd {n b : Nat} (h : Bel n H) : Bel n (H.set b .dead) := bel_setx h fun y hy => by simp [AB.vals] at hy
theorem bel_newd {n : Nat} (h : Bel n H) : Bel n (H.new .dead) := bel_newx h fun y hy => by simp [AB.vals] at hy
end freeze

/-! ### Bytes and strings -/

/-- A row of bytes as a string. -/
def bytesOf (l : List (BitVec 8)) : ByteArray := ⟨(l.map fun x => UInt8.ofBitVec x).toArray⟩
/-- The n-th byte of a string. -/
def sb (s : ByteArray) (n : Nat) : BitVec 8 := (s.data.toList.getD n 0).toBitVec

def isBytesT (P : Program) (t : TypeId) : Bool := match P.underlying t with | some (.slice e) => (match P.underlying e with | some (.int .u8) => P.cellsOf e == 1 | _ => false) | _ => false
theorem isBytesT_inv {P : Program} {t : TypeId} (h : isBytesT P t = true) : ∃ e, P.underlying t = some (.slice e) ∧ P.underlying e = some (.int .u8) ∧ P.cellsOf e = 1 := by
  unfold isBytesT at h
  split at h
  · rename_i e hu
    split at h
    · rename_i hv; exact ⟨e, hu, hv, by simpa using h⟩
    · cases h
  · cases h

theorem toBytes_b8 (l : List (BitVec 8)) : toBytes (pl b8 l) = some (l.map fun x => UInt8.ofBitVec x) := by
  induction l with
  | nil => rfl
  | cons a l ih =>
    have ha := a.isLt
    simp only [pl, List.map_cons, b8] at ih ⊢
    simp [toBytes, ih]

theorem conv_bytes_str {P : Program} {H : Hp} {s d : TypeId} {fl : Bool} {l : List (BitVec 8)} (hs : isBytesT P s = true) (hd : P.underlying d = some .string) : aConv P H s d (.p (.sl fl 1 (pl b8 l))) = some (.p (str (bytesOf l))) := by
  obtain ⟨e, h1, h2, h3⟩ := isBytesT_inv hs
  simp only [aConv, h1, hd, aBytesStr, h2, h3, if_true, aElems, true_or, toBytes_b8, Option.map_some]
  rfl
theorem conv_sl_str {P : Program} {H : Hp} {s d : TypeId} {a v : Nat} {l : List (BitVec 8)} (hs : isBytesT P s = true) (hd : P.underlying d = some .string) : aConv P H s d (.sl a v 1 (pl b8 l)) = some (.p (str (bytesOf l))) := by
  obtain ⟨e, h1, h2, h3⟩ := isBytesT_inv hs
  simp only [aConv, h1, hd, aBytesStr, h2, h3, if_true, aElems, true_or, toBytes_b8, Option.map_some]
  rfl
theorem idx_str {P : Program} {s : ByteArray} {n : Int} (h0 : 0 ≤ n) (h : n.toNat < s.size) : aIndexK P (some .string) (.p (str s)) (some n) = some (.p (b8 (sb s n.toNat))) := by
  have h2 : s[n.toNat]? = some s[n.toNat] := by simp [h]
  have h3 : (s.data.toList).getD n.toNat 0 = s[n.toNat] := by
    rw [List.getD_eq_getElem?_getD, List.getElem?_eq_getElem (by simpa using h)]; rfl
  simp only [aIndexK, b8, str, h2, Option.map_some, if_pos h0, sb, h3]
  rfl
theorem bytes_new {w : World} {S : Nat → Nat → Prop} (l : List (BitVec 8)) (e : TypeId) (fr : Nat × Nat) (hS : ∀ o, S w.heap.size o) (hl : l.length ≤ 16777216) :
    RelP (w.alloc (.cells (l.map fun x => Value.int .u8 x.toNat).toArray e fr)) S (.sl true 1 (pl b8 l)) (.slice (some ⟨w.heap.size, 0, none⟩) l.length l.length) := by
  have hone : ∀ y ∈ pl b8 l, y.cells = [y] := fun y hy => by
    simp only [pl, List.mem_map] at hy
    obtain ⟨x, _, rfl⟩ := hy
    rfl
  have key := RelP.sl (w := w.alloc (.cells (l.map fun x => Value.int .u8 x.toNat).toArray e fr)) (S := S) true 1 (pl b8 l) w.heap.size 0 l.length (fun k => .int .u8 ((l[k]?).getD 0).toNat) (fun _ => pl_len.symm) ⟨by rw [pl_len]; exact Nat.le_refl _, by unfold maxLen; omega⟩ (fun y hy => by rw [hone y hy]; rfl)
    (fun k hk => by
      rw [pl_len, Nat.mul_one] at hk
      refine ⟨hS _, ?_, rfl⟩
      simp only [World.cell?, heap_alloc_new, Nat.zero_add]
      simp [hk])
    (fun k y hy => by
      rw [flat_ones hone] at hy
      simp only [pl, List.getElem?_map, Option.map_eq_some_iff] at hy
      obtain ⟨x, hx, rfl⟩ := hy
      rw [hx]
      exact .s _ rfl)
  rwa [pl_len] at key

/-- '[]byte("..")' of a constant string: a row made, then marked. -/
theorem AOps.bytesLit {C : Cx} {k : List Item} {env : Env} {H : Hp} {R : AV → Hp → Prop} {ops : Array Oper} {rest : List Oper} {d1 d2 n : Nat} {t e ty1 ty2 : TypeId} {p1 p2 : String} {a1 a2 : Array Edge} {parts : Array (Nat × Operand)} (l : List (BitVec 8))
    (hn : l.length = n) (hl : l.length ≤ 16777216) (ht : C.P.underlying t = some (.slice e)) (he : C.P.underlying e = some (.int .u8)) (h1 : d1 < C.nt) (h2 : d2 < C.nt)
    (hrun : ∀ (ρ : Operand → Value), (∀ v, ρ (.const v) = v) → ∀ w, (Instr.buildSlice t n (parts.map fun p => (p.1, ρ p.2))).run C.P w = .ok (.slice (some ⟨w.heap.size, 0, none⟩) n n) (w.alloc (.cells (l.map fun x => Value.int .u8 x.toNat).toArray e)))
    (h : AOps C ops rest k ((env.put (some d1) (.p (.sl true 1 (pl b8 l)))).put (some d2) (.p (.sl true 1 (pl b8 l)))) H R) :
    AOps C ops (⟨some d1, .buildSlice t n parts, ty1, p1, a1, none⟩ :: ⟨some d2, .convert t t (.tmp d1), ty2, p2, a2, none⟩ :: rest) k env H R := by
  intro σ w a m hpre
  subst hn
  have hr1 := hrun a.eval (fun _ => rfl) w
  have hr2 := Lib.run_convert_bytes_const (P := C.P) w t e (l.map fun x => Value.int .u8 x.toNat).toArray l.length l.length ht he
  obtain ⟨r1, e1⟩ := rel_alloc hpre.rel (.cells (l.map fun x => Value.int .u8 x.toNat).toArray e ((l.map fun x => Value.int .u8 x.toNat).toArray.size, (l.map fun x => Value.int .u8 x.toNat).toArray.size + 1))
  have hst : ∀ o, Stable σ H w.heap.size o := fun o => ⟨fun b cs hb => by have := hpre.rel.c_lt hb; omega, fun b k d o' s hb ht => by have := hpre.rel.t_lt hb ht; omega⟩
  have hv := bytes_new (w := w) (S := Stable σ H) l e ((l.map fun x => Value.int .u8 x.toNat).toArray.size, (l.map fun x => Value.int .u8 x.toNat).toArray.size + 1) hst hl
  generalize hw2 : w.alloc (.cells (l.map fun x => Value.int .u8 x.toNat).toArray e ((l.map fun x => Value.int .u8 x.toNat).toArray.size, (l.map fun x => Value.int .u8 x.toNat).toArray.size + 1)) = w2 at hr2 r1 e1 hv
  generalize hvv : Value.slice (some ⟨w.heap.size, 0, none⟩) l.length l.length = v at hr1 hr2 hv
  have hf1 : RelF C.nt m σ H w2 ((env.put (some d1) (.p (.sl true 1 (pl b8 l)))).put (some d2) (.p (.sl true 1 (pl b8 l)))) ((a.put (some d1) v).put (some d2) v) :=
    ((hpre.fr.mono e1).put (fun i hi => by cases hi; exact h1) (.p hv)).put (fun i hi => by cases hi; exact h2) (.p hv)
  have hrest := h σ w2 _ m (hpre.go r1 hf1 e1)
  unfold wpListIn
  rw [if_pos (by simp [Region.wanted])]
  unfold Oper.wpIn
  refine ⟨fun f _ => trivial, ?_⟩
  have hs1 : ∀ ro, Oper.semAt ro a.eval ⟨some d1, .buildSlice t l.length parts, ty1, p1, a1, none⟩ = execOp a.eval ⟨some d1, .buildSlice t l.length parts, ty1, p1, a1, none⟩ := fun ro => Oper.semAt_eq _ _ _ (fun c h => by cases h)
  rw [hs1]
  have hx1 : (execOp a.eval ⟨some d1, .buildSlice t l.length parts, ty1, p1, a1, none⟩).run C.P w = .ok (.value v) (w.alloc (.cells (l.map fun x => Value.int .u8 x.toNat).toArray e)) := by
    simp only [execOp, Sem.run_bind]
    rw [show (parts.map fun (i, x) => (i, a.eval x)) = parts.map fun p => (p.1, a.eval p.2) from rfl, hr1]
    rfl
  rw [hx1]
  show wpListIn _ _ _ _ _ _ _ _
  unfold wpListIn
  rw [if_pos (by simp [Region.wanted])]
  unfold Oper.wpIn
  refine ⟨fun f _ => trivial, ?_⟩
  have hs2 : ∀ ro, Oper.semAt ro (a.put (some d1) v).eval ⟨some d2, .convert t t (.tmp d1), ty2, p2, a2, none⟩ = execOp (a.put (some d1) v).eval ⟨some d2, .convert t t (.tmp d1), ty2, p2, a2, none⟩ := fun ro => Oper.semAt_eq _ _ _ (fun c h => by cases h)
  rw [hs2]
  have hev : (a.put (some d1) v).eval (.tmp d1) = v := by
    have : d1 < a.tmps.size := by rw [hpre.fr.size]; exact h1
    simp [Act.eval, Act.put, this]
  have hx2 : (execOp (a.put (some d1) v).eval ⟨some d2, .convert t t (.tmp d1), ty2, p2, a2, none⟩).run C.P (w.alloc (.cells (l.map fun x => Value.int .u8 x.toNat).toArray e)) = .ok (.value v) w2 := by
    simp only [execOp, Sem.run_bind, hev, hr2]
    rfl
  rw [hx2]
  show wpListIn _ _ _ _ _ _ _ _
  refine wpListIn_mono rest ?_ _ _ hrest
  rintro e' a' w3 ⟨rfl, env', H2, σ2, hr, hpre2, hev2⟩
  exact ⟨rfl, env', H2, σ2, hr, hpre2, e1.trans hev2 (Nat.le_refl _)⟩

theorem bv_ne {w : Nat} {x y : BitVec w} (h : x.toNat ≠ y.toNat) : x ≠ y := fun e => h (by rw [e])
attribute [go_sem] conv_bytes_str conv_sl_str idx_str
end Go.AL
