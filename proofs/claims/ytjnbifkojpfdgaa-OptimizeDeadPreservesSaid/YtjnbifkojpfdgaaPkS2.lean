/-
  Sharing equal gates: the walk of the program.
-/
import Derived.Test.YtjnbifkojpfdgaaPkS1
set_option linter.unusedSimpArgs false
set_option linter.unusedVariables false
namespace Go.Proofs.Ytjnbifkojpfdgaa
open Go Go.AL

def gev (g : Gate) : Value := .agg #[.int .i64 g.l, .int .i64 g.r, .int .u64 g.c.toNat, .int .u64 g.a.toNat, .int .u64 g.b.toNat, .int .u64 g.d.toNat]

theorem gate_litsD (d : Nat) (g : Gate) (h : okG g) : Try.prog.keyLits (d + 2) 46 [.int .i64 g.l, .int .i64 g.r, .int .u64 g.c.toNat, .int .u64 g.a.toNat, .int .u64 g.b.toNat, .int .u64 g.d.toNat] =
    some [.int .i64 g.l, .int .i64 g.r, .int .u64 g.c.toNat, .int .u64 g.a.toNat, .int .u64 g.b.toNat, .int .u64 g.d.toNat] := by
  obtain ⟨h1, h2, h3, h4⟩ := h
  have i1 : ∀ n, (Lit.int .i64 n).wf = true → Try.prog.keyLits (d + 1) 3 [.int .i64 n] = some [.int .i64 n] := fun n h => keyLits_one Try.underlying3 h
  have i2 : ∀ x : U, Try.prog.keyLits (d + 1) 44 [.int .u64 x.toNat] = some [.int .u64 x.toNat] := fun x => keyLits_one Try.underlying44 (wf_u64 x)
  have h5 := i1 _ (wf_i64 h1 h2)
  have h6 := i1 _ (wf_i64 h3 h4)
  unfold Program.keyLits
  simp only [Try.underlying46, cells46]
  rw [if_pos ⟨rfl, by kernel_rfl⟩]
  simp only [List.mapM_cons, List.mapM_nil, cells3, cells44, List.drop_zero, List.drop_succ_cons, List.take_succ_cons, List.take_zero, h5, h6, i2, Option.pure_def, Option.bind_eq_bind, Option.bind_some, Option.map_some]
  rfl

theorem gate_key (g : Gate) (h : okG g) : (keyOf Try.prog 46 (gev g)).isSome = true := by
  unfold keyOf
  simp only [Try.underlying46]
  have hf : (gev g).formed Try.prog 46 = true := by
    simp only [gev, Value.formed, Try.underlying46, cells46]
    rfl
  have hk : Try.prog.keyType 46 = true := by kernel_rfl
  obtain ⟨d, hd⟩ : ∃ d, Try.prog.types.size + 1 = d + 2 := ⟨Try.prog.types.size - 1, by
    have : 0 < Try.prog.types.size := of_decide_eq_true (by kernel_rfl)
    omega⟩
  have hg := gate_litsD d g h
  rw [hk, hf, hd]
  simp only [Bool.and_self, if_true, gev, Value.cells, hg]
  rfl

theorem gate_inj (a b : Gate) (_ : okG a) (_ : okG b) (h : gev a = gev b) : a = b := by
  obtain ⟨a1, a2, a3, a4, a5, a6⟩ := a
  obtain ⟨b1, b2, b3, b4, b5, b6⟩ := b
  simp only [gev, Value.agg.injEq, Array.mk.injEq, List.cons.injEq, Value.int.injEq, true_and, and_true] at h
  obtain ⟨h1, h2, h3, h4, h5, h6⟩ := h
  have e : ∀ x y : U, (x.toNat : Int) = y.toNat → x = y := fun x y h => BitVec.eq_of_toNat_eq (by omega)
  rw [h1, h2, e _ _ h3, e _ _ h4, e _ _ h5, e _ _ h6]

def nv (n : Nat) : AV := .p (i64 n)
theorem gateMap : MapT Try.prog 58 gate gev okG nv (.p (i64 0)) where
  ty := ⟨46, 3, Try.underlying58, keyT46, gate_key, zeroAV3⟩
  val _ := rfl
  inj := gate_inj

theorem fst_congr {p q : Nat → Bool} {n : Nat} (h : ∀ i, i < n → p i = q i) : fst? p n = fst? q n := by
  induction n with
  | zero => rfl
  | succ n ih => simp only [fst?]; rw [ih fun i hi => h i (by omega), h n (by omega)]
theorem findI_snoc {l : List Gate} {g a : Gate} : findI (l ++ [g]) a = match findI l a with | some j => some j | none => if g = a then some l.length else none := by
  have h1 : fst? (fun i => decide (nth (l ++ [g]) i = a)) l.length = findI l a := fst_congr fun i hi => by rw [nth_append_l hi]
  unfold findI at h1 ⊢
  rw [show (l ++ [g]).length = l.length + 1 by simp]
  simp only [fst?]
  rw [h1]
  cases fst? (fun i => decide (nth l i = a)) l.length with
  | some j => rfl
  | none =>
    have h2 : nth (l ++ [g]) l.length = g := by rw [nth_append_r (Nat.le_refl _), Nat.sub_self, nth_cons_zero]
    simp [h2]
/-- The map tells where a gate stands first. -/
def MapOf (m : List (Gate × Nat)) (l : List Gate) : Prop := (∀ p ∈ m, okG p.1) ∧ ∀ a, assoc a m = findI l a
theorem MapOf.keep {m : List (Gate × Nat)} {l : List Gate} {g : Gate} {j : Nat} (h : MapOf m l) (hg : findI l g = some j) : MapOf m (l ++ [g]) := ⟨h.1, fun a => by
  rw [findI_snoc, h.2 a]
  cases hf : findI l a with
  | some j => rfl
  | none =>
    have : g ≠ a := fun e => by rw [e, hf] at hg; cases hg
    simp [this]⟩
theorem MapOf.put {m : List (Gate × Nat)} {l : List Gate} {g : Gate} (h : MapOf m l) (hok : okG g) (hg : findI l g = none) : MapOf (putA g l.length m) (l ++ [g]) := ⟨putA_keys m hok h.1, fun a => by
  rw [findI_snoc, assoc_putA, h.2 a]
  by_cases e : g = a
  · subst e; rw [hg]
  · simp only [if_neg e]; cases findI l a <;> rfl⟩

theorem nv_def {n : Nat} : nv n = .p (i64 n) := rfl
attribute [go_sem] nv_def

section walks
variable {G : Globs}

theorem optimize_Share_c1_spec (i : Int) (H : Hp) (R : AV → Hp → Prop) (h : R (.p (i64 i)) H) : ACall Try.prog G 37 [.p (i64 i)] H R := by
  refine ACall.of_run (raw := []) Try.func37 rfl Try.ntmps37 (by simp) fun hbel => ?_
  (repeat refine .z rfl ?_); refine .text ?_; simp (disch := first | exact dsc | fail) only [go_sem, seval]
  (repeat refine .z rfl ?_); refine .text ?_; simp (disch := first | exact dsc | fail) only [go_sem, seval]
  (repeat refine .z rfl ?_); refine .rt Try.func37 (by rw [Try.results37]) (hR := ?_); simp (disch := first | exact dsc | fail) only [go_sem, seval]
  exact h

theorem optimize_Share_c2_spec (ns : List Int) (i : Int) (hi : 0 ≤ i ∧ i.toNat < ns.length) (b : Nat) (H : Hp) (hb : H.f b = some (.cells [.p (.sl false 1 (pl i64 ns))])) (R : AV → Hp → Prop) (h : R (.p (i64 (nth ns i.toNat))) H) : ACall Try.prog G 38 [.p (i64 i), .ptr b 0] H R := by
  refine ACall.of_run (raw := []) Try.func38 rfl Try.ntmps38 (by simp) fun hbel => ?_
  obtain ⟨i0, i1⟩ := hi
  (repeat refine .z rfl ?_); refine .text ?_; simp (disch := first | exact dsc | fail) only [go_sem, seval]
  (repeat refine .z rfl ?_); refine .text ?_; simp (disch := first | exact dsc | fail) only [go_sem, seval, hb]
  (repeat refine .z rfl ?_); refine .rt Try.func38 (by rw [Try.results38]) (hR := ?_); simp (disch := first | exact dsc | fail) only [go_sem, seval]
  exact h

set_option maxHeartbeats 16000000 in
theorem optimize_Share_spec (c : Circ) (hc : Ok c) (H : Hp) (R : AV → Hp → Prop) (h : R (.p (circ (share c))) H) : ACall Try.prog G 15 [.p (circ c)] H R := by
  refine ACall.of_run (raw := []) Try.func15 rfl Try.ntmps15 (by simp) fun hbel => ?_
  have hl := hc.len.2
  (repeat refine .z rfl ?_); refine .text ?_; simp (disch := first | exact dsc | fail) only [go_sem, seval]
  (repeat refine .z rfl ?_); refine .text ?_; simp (disch := first | exact dsc | fail) only [go_sem, seval]
  (repeat refine .z rfl ?_); refine .ownC (H.n+2) 1 (by simp (disch := first | exact dsc | fail) only [go_sem, seval]; rfl) (by rfl) ?_; simp (disch := first | exact dsc | fail) only [go_sem, seval, List.set_cons_zero, List.set_cons_succ]
  (repeat refine .z rfl ?_); refine .text ?_; simp (disch := first | exact dsc | fail) only [go_sem, seval]
  (repeat refine .z rfl ?_); refine .text ?_; simp (disch := first | exact dsc | fail) only [go_sem, seval]
  repeat refine .z rfl ?_
  refine .count (fun k env H' => env 2 = .ptr (H.n+1) 0 ∧ env 3 = .ptr (H.n+2) 0 ∧ env 20 = .p (.sl false 1 (pl (sle 6 gate) c.layers)) ∧ env 21 = .p (i64 c.layers.length) ∧ env 22 = .p (i64 k) ∧ env 1 = .ptr H.n 0 ∧ (∃ T, H' = app (bH H c (tab (fun k => (shN c.layers k).1) k) k) T) ∧
    ((k = 0 ∧ env 4 = .clo 37 [] []) ∨ (0 < k ∧ ∃ b, env 4 = .clo 38 [] [.ptr b 0] ∧ H'.f b = some (.cells [.p (.sl false 1 (pl i64 (shP c.layers k)))])))) 0 c.layers.length (by omega) ?_ ?_ ?_
  · simp (disch := first | exact dsc | fail) only [go_sem, seval]
    exact ⟨[], rfl⟩
  · intro env H' ⟨e2, e3, e20, e21, e22, e1, ⟨T, eH⟩, hfn⟩
    subst eH
    (repeat refine .z rfl ?_); refine .text ?_; simp (disch := first | exact dsc | fail) only [go_sem, seval, e21, e22]
    (repeat refine .z rfl ?_); refine .ifF (by simp (disch := first | exact dsc | fail) only [go_sem, seval]) ?_
    (repeat refine .z rfl ?_); refine .text ?_; simp (disch := first | exact dsc | fail) only [go_sem, seval, e2, e3, bH]
    (repeat refine .z rfl ?_); refine .rt Try.func15 (by rw [Try.results15]) (hx := by simp (disch := first | exact dsc | fail) only [go_sem, seval, e2]; rfl) (hR := ?_); simp (disch := first | exact dsc | fail) only [go_sem, seval, e2]
    exact h
  · intro k env H' _ hk ⟨e2, e3, e20, e21, e22, e1, ⟨T, eH⟩, hfn⟩ ih
    have hr := (hc.row k hk).2
    have hok := fun i hi => shTo_ok (last := k + 1 == c.layers.length) (shG_op hc hk (fun h0 => ⟨_, shN_ok hc (k - 1) (by omega)⟩)) i hi
    have hwl := shW_le hc hk
    have hBn : H'.n = H.n + 4 + T.length := by subst eH; simp only [go_sem, bH]
    have hB1 : H'.f H.n = some (.cells (cc c)) := by subst eH; simp (disch := first | exact dsc | fail) only [go_sem, seval, bH]
    (repeat refine .z rfl ?_); refine .text ?_; simp (disch := first | exact dsc | fail) only [go_sem, seval, e21, e22]
    (repeat refine .z rfl ?_); refine .ifT (by simp (disch := first | exact dsc | fail) only [go_sem, seval]) ?_
    (repeat refine .z rfl ?_); refine .text ?_; simp (disch := first | exact dsc | fail) only [go_sem, seval, e20, e22]
    (repeat refine .z rfl ?_); refine .text ?_; simp (disch := first | exact dsc | fail) only [go_sem, seval]
    (repeat refine .z rfl ?_); refine .own 7 (by simp (disch := first | exact dsc | fail) only [go_sem, seval]; rfl) ?_
    (repeat refine .z rfl ?_); refine .text ?_; simp (disch := first | exact dsc | fail) only [go_sem, seval]
    (repeat refine .z rfl ?_); refine .text ?_; simp (disch := first | exact dsc | fail) only [go_sem, seval]
    (repeat refine .z rfl ?_); refine .ownC (H'.n+2) 0 (by simp (disch := first | exact dsc | fail) only [go_sem, seval]; rfl) (by rfl) ?_; simp (disch := first | exact dsc | fail) only [go_sem, seval, List.set_cons_zero, List.set_cons_succ]
    (repeat refine .z rfl ?_); refine .text ?_; simp (disch := first | exact dsc | fail) only [go_sem, seval]
    repeat refine .z rfl ?_
    obtain ⟨fn, hfe⟩ : ∃ fn, env 4 = fn := ⟨_, rfl⟩
    rw [hfe] at hfn
    refine .count (fun i env H2 => env 2 = .ptr (H.n+1) 0 ∧ env 3 = .ptr (H.n+2) 0 ∧ env 20 = .p (.sl false 1 (pl (sle 6 gate) c.layers)) ∧ env 21 = .p (i64 c.layers.length) ∧ env 22 = .p (i64 k) ∧ env 1 = .ptr H.n 0 ∧ env 4 = fn ∧ env 5 = .p (i64 k) ∧ env 7 = .sl H'.n (shTo (shP c.layers k) (k == 0) (k + 1 == c.layers.length) (nth c.layers k) i).1.length 6 (pl gate (shTo (shP c.layers k) (k == 0) (k + 1 == c.layers.length) (nth c.layers k) i).1) ∧ env 8 = .mp (H'.n+1) ∧ env 9 = .ptr (H'.n+2) 0 ∧ env 28 = .p (.sl false 6 (pl gate (nth c.layers k))) ∧ env 29 = .p (i64 (nth c.layers k).length) ∧ env 30 = .p (i64 i) ∧ ∃ m S, MapOf m (shTo (shP c.layers k) (k == 0) (k + 1 == c.layers.length) (nth c.layers k) i).1 ∧ H2 = app ((((H'.new (.tail (shTo (shP c.layers k) (k == 0) (k + 1 == c.layers.length) (nth c.layers k) i).1.length)).new (.mapB (tm gev nv m))).new (.cells [.sl (H'.n+3) i 1 (pl i64 (shTo (shP c.layers k) (k == 0) (k + 1 == c.layers.length) (nth c.layers k) i).2)])).new (.tail i)) S) 0 (nth c.layers k).length (by omega) ?_ ?_ ?_
    · simp (disch := first | exact dsc | fail) only [go_sem, seval, e2, e3, e20, e21, e22, e1, hfe]
      exact ⟨rfl, [], [], ⟨fun p hp => (by cases hp), fun a => rfl⟩, rfl⟩
    · intro env H2 ⟨e2, e3, e20, e21, e22, e1, e4, e5, e7, e8, e9, e28, e29, e30, m, S, hm, eHH⟩
      subst eHH
      have hso := shN_ok hc k hk
      have hlo := hso.len
      have hnu := hso.num
      have he2 : shP c.layers (k + 1) = (shN c.layers k).2 := rfl
      rw [← shN_eq] at e7
      simp only [← shN_eq]
      generalize hs : shN c.layers k = s at *
      (repeat refine .z rfl ?_); refine .text ?_; simp (disch := first | exact dsc | fail) only [go_sem, seval, e29, e30]
      (repeat refine .z rfl ?_); refine .ifF (by simp (disch := first | exact dsc | fail) only [go_sem, seval]) ?_
      subst eH
      (repeat refine .z rfl ?_); refine .text ?_; simp (disch := first | exact dsc | fail) only [go_sem, seval, e3, e7, bH]
      (repeat refine .z rfl ?_); refine .text ?_; simp (disch := first | exact dsc | fail) only [go_sem, seval, e9, bH]
      (repeat refine .z rfl ?_); refine .weakC (H.n+4+T.length+2) (by simp (disch := first | exact dsc | fail) only [go_sem, seval]; rfl) ?_; (try simp (disch := first | exact dsc | fail) only [go_sem, seval, List.map_replicate, List.map_cons, List.map_nil, AV.weak, PV.weak])
      (repeat refine .z rfl ?_); refine .text ?_; simp (disch := first | exact dsc | fail) only [go_sem, seval, e22]
      refine ih _ _ ?_
      simp (disch := first | exact dsc | fail) only [go_sem, seval, e2, e3, e20, e21, e22, e1, bH, tab_succ, hs, he2]
      refine ⟨⟨T ++ .tail s.1.length :: .mapB (tm gev nv m) :: .cells [.p (.sl false 1 (pl i64 s.2))] :: .tail (nth c.layers k).length :: S, by simp [app]⟩, Nat.succ_pos _, _, rfl, ?_⟩
      simp (disch := first | exact dsc | fail) only [go_sem, seval]
    · intro i env H2 _ hi ⟨e2, e3, e20, e21, e22, e1, e4, e5, e7, e8, e9, e28, e29, e30, m, S, hm, eHH⟩ ih
      subst eHH
      have hsi := hok i (by omega)
      have hop := hc.op k hk i hi
      have hgi := shG_op hc hk (fun h0 => ⟨_, shN_ok hc (k - 1) (by omega)⟩) i hi
      simp only [shTo] at ih
      generalize hs : shTo (shP c.layers k) (k == 0) (k + 1 == c.layers.length) (nth c.layers k) i = s at *
      generalize hg : nth (nth c.layers k) i = g at *
      have hls := hsi.len
      have hln := hsi.num
      (repeat refine .z rfl ?_); refine .text ?_; simp (disch := first | exact dsc | fail) only [go_sem, seval, e29, e30]
      (repeat refine .z rfl ?_); refine .ifT (by simp (disch := first | exact dsc | fail) only [go_sem, seval]) ?_
      (repeat refine .z rfl ?_); refine .text ?_; simp (disch := first | exact dsc | fail) only [go_sem, seval, e28, e30, hg]
      (repeat refine .z rfl ?_); refine .cut (fun env' H2 => env' 2 = .ptr (H.n+1) 0 ∧ env' 3 = .ptr (H.n+2) 0 ∧ env' 20 = .p (.sl false 1 (pl (sle 6 gate) c.layers)) ∧ env' 21 = .p (i64 c.layers.length) ∧ env' 22 = .p (i64 k) ∧ env' 1 = .ptr H.n 0 ∧ env' 4 = fn ∧ env' 5 = .p (i64 k) ∧ env' 7 = .sl H'.n s.1.length 6 (pl gate s.1) ∧ env' 8 = .mp (H'.n+1) ∧ env' 9 = .ptr (H'.n+2) 0 ∧ env' 28 = .p (.sl false 6 (pl gate (nth c.layers k))) ∧ env' 29 = .p (i64 (nth c.layers k).length) ∧ env' 30 = .p (i64 i) ∧ env' 11 = .ptr (H'.n+4+S.length) 0 ∧ H2 = (app ((((H'.new (.tail s.1.length)).new (.mapB (tm gev nv m))).new (.cells [.sl (H'.n+3) i 1 (pl i64 s.2)])).new (.tail i)) S).new (.cells (gc (shG (shP c.layers k) (k == 0) g)))) (fun ih => ?_) ?_
      · rcases hfn with ⟨h0, rfl⟩ | ⟨h0, b, rfl, hb⟩
        · have hb : (k == 0) = true := by simp; omega
          (repeat refine .z rfl ?_); refine .open [9, 11] follows (by kernel_rfl) ?_; simp (disch := first | exact dsc | fail) only [go_sem, seval, e4]
          refine CallD.still (fun R h => optimize_Share_c1_spec _ _ R h) ?_; simp (disch := first | exact dsc | fail) only [go_sem, seval, e4]
          refine CallD.still (fun R h => optimize_Share_c1_spec _ _ R h) ?_; simp (disch := first | exact dsc | fail) only [go_sem, seval]
          refine ih _ _ ?_
          simp (disch := first | exact dsc | fail) only [go_sem, seval, e2, e3, e20, e21, e22, e1, e4, e5, e7, e8, e9, e28, e29, e30, hb, shG]
        · have hbk : (k == 0) = false := by simp; omega
          have hp : (shP c.layers k).length = (nth c.layers (k - 1)).length := by rw [shP, if_neg (by omega)]; exact (shN_ok hc (k - 1) (by omega)).num
          have hw : wid c k = ((nth c.layers (k - 1)).length : Int) := by rw [wid, if_neg (by omega)]
          rw [hw] at hop
          obtain ⟨o1, o2, o3, o4⟩ := hop
          have hbl : b < H'.n := Hp.lt hb
          (repeat refine .z rfl ?_); refine .open [9, 11] follows (by kernel_rfl) ?_; simp (disch := first | exact dsc | fail) only [go_sem, seval, e4]
          refine CallD.still (fun R h => optimize_Share_c2_spec (shP c.layers k) g.l ⟨o1, by omega⟩ b _ (by simp (disch := first | exact dsc | fail) only [go_sem, seval]; exact hb) R h) ?_; simp (disch := first | exact dsc | fail) only [go_sem, seval, e4]
          refine CallD.still (fun R h => optimize_Share_c2_spec (shP c.layers k) g.r ⟨o3, by omega⟩ b _ (by simp (disch := first | exact dsc | fail) only [go_sem, seval]; exact hb) R h) ?_; simp (disch := first | exact dsc | fail) only [go_sem, seval]
          refine ih _ _ ?_
          simp (disch := first | exact dsc | fail) only [go_sem, seval, e2, e3, e20, e21, e22, e1, e4, e5, e7, e8, e9, e28, e29, e30, hbk, shG]
      clear e2 e3 e20 e21 e22 e1 e4 e5 e7 e8 e9 e28 e29 e30
      intro env' H2 ⟨e2, e3, e20, e21, e22, e1, e4, e5, e7, e8, e9, e28, e29, e30, e11, eHH⟩
      subst eHH
      generalize shG (shP c.layers k) (k == 0) g = g' at *
      have hok' : okG g' := hgi.okG hwl
      have hlk := gateMap.look hm.1 hok'
      rw [hm.2 g'] at hlk
      have hlast : ((k : Int) == (c.layers.length : Int) - 1) = (k + 1 == c.layers.length) := by
        by_cases e : k + 1 = c.layers.length
        · simp only [e, beq_self_eq_true, beq_iff_eq]; omega
        · rw [beq_eq_false_iff_ne.2 e, beq_eq_false_iff_ne]; omega
      cases hf : findI s.1 g' with
      | none =>
        rw [hf] at hlk
        simp only [hf] at ih
        have hput : ∀ H b, aPutM Try.prog H 58 b (some (tm gev nv m)) (.p (gate g')) (.p (i64 (s.1.length : Nat))) = some (H.set b (.mapB (tm gev nv (putA g' s.1.length m)))) := fun H b => gateMap.put hm.1 hok'
        (repeat refine .z rfl ?_); refine .text ?_; simp (disch := first | exact dsc | fail) only [go_sem, seval, e8, e11, hlk]
        (repeat refine .z rfl ?_); refine .text ?_; simp (disch := first | exact dsc | fail) only [go_sem, seval]
        (repeat refine .z rfl ?_); refine .ifT (by simp (disch := first | exact dsc | fail) only [go_sem, seval]) ?_
        (repeat refine .z rfl ?_); refine .text ?_; simp (disch := first | exact dsc | fail) only [go_sem, seval, e7]
        (repeat refine .z rfl ?_); refine .text ?_; simp (disch := first | exact dsc | fail) only [go_sem, seval, e7, e11]
        (repeat refine .z rfl ?_); refine .text ?_; simp (disch := first | exact dsc | fail) only [go_sem, seval]
        (repeat refine .z rfl ?_); refine .ifT (by simp (disch := first | exact dsc | fail) only [go_sem, seval]) ?_
        (repeat refine .z rfl ?_); refine .text ?_; simp (disch := first | exact dsc | fail) only [go_sem, seval, e8, e11, hput]
        (repeat refine .z rfl ?_); refine .text ?_; simp (disch := first | exact dsc | fail) only [go_sem, seval, e9]
        (repeat refine .z rfl ?_); refine .text ?_; simp (disch := first | exact dsc | fail) only [go_sem, seval, e30]
        refine ih _ _ ?_
        simp (disch := first | exact dsc | fail) only [go_sem, seval, e2, e3, e20, e21, e22, e1, e4, e5, e7, e8, e9, e28, e29, e30]
        exact ⟨_, _, hm.put hok' hf, app_new⟩
      | some j =>
        rw [hf] at hlk
        simp only [hf] at ih
        have hj := (fst_some.1 hf).1
        (repeat refine .z rfl ?_); refine .text ?_; simp (disch := first | exact dsc | fail) only [go_sem, seval, e8, e11, hlk]
        (repeat refine .z rfl ?_); refine .text ?_; simp (disch := first | exact dsc | fail) only [go_sem, seval, e1, e5, hB1, hlast]
        (repeat refine .z rfl ?_); refine .ifB (by simp (disch := first | exact dsc | fail) only [go_sem, seval]; rfl) (fun hz => ?_) (fun hz => ?_)
        · simp only [hz, if_true] at ih
          (repeat refine .z rfl ?_); refine .text ?_; simp (disch := first | exact dsc | fail) only [go_sem, seval, e7]
          (repeat refine .z rfl ?_); refine .text ?_; simp (disch := first | exact dsc | fail) only [go_sem, seval, e7, e11]
          (repeat refine .z rfl ?_); refine .text ?_; simp (disch := first | exact dsc | fail) only [go_sem, seval]
          (repeat refine .z rfl ?_); refine .ifF (by simp (disch := first | exact dsc | fail) only [go_sem, seval]) ?_
          (repeat refine .z rfl ?_); refine .text ?_; simp (disch := first | exact dsc | fail) only [go_sem, seval, e9]
          (repeat refine .z rfl ?_); refine .text ?_; simp (disch := first | exact dsc | fail) only [go_sem, seval, e30]
          refine ih _ _ ?_
          simp (disch := first | exact dsc | fail) only [go_sem, seval, e2, e3, e20, e21, e22, e1, e4, e5, e7, e8, e9, e28, e29, e30]
          exact ⟨_, _, hm.keep hf, app_new⟩
        · simp only [hz, Bool.false_eq_true, if_false] at ih
          refine .skip ?_
          (repeat refine .z rfl ?_); refine .text ?_; simp (disch := first | exact dsc | fail) only [go_sem, seval, e9]
          (repeat refine .z rfl ?_); refine .text ?_; simp (disch := first | exact dsc | fail) only [go_sem, seval, e30]
          refine ih _ _ ?_
          simp (disch := first | exact dsc | fail) only [go_sem, seval, e2, e3, e20, e21, e22, e1, e4, e5, e7, e8, e9, e28, e29, e30]
          exact ⟨_, _, hm, app_new⟩
end walks
end Go.Proofs.Ytjnbifkojpfdgaa

/-
  Removing unused gates: the closures of the program's Dead and the choice of the gates.
-/
namespace Go.Proofs.Ytjnbifkojpfdgaa
open Go Go.AL

def iev (n : Int) : Value := .int .i64 n
def okI (n : Int) : Prop := -9223372036854775808 ≤ n ∧ n ≤ 9223372036854775807
def uv (_ : Unit) : AV := .p (.agg [])
theorem int_key (n : Int) (h : okI n) : (keyOf Try.prog 3 (iev n)).isSome = true := by
  unfold keyOf
  simp only [Try.underlying3, mapKey, iev]
  rw [if_pos ⟨trivial, wf_i64 h.1 h.2⟩]
  rfl
theorem intMap : MapT Try.prog 65 i64 iev okI uv (.p (.agg [])) where
  ty := ⟨3, 66, Try.underlying65, keyT3, int_key, zeroAV66⟩
  val _ := rfl
  inj a b _ _ h := by simpa [iev] using h
theorem uv_def {u : Unit} : uv u = .p (.agg []) := rfl
theorem acells_unit : acells (.p (.agg [])) = some [] := rfl
theorem mkAgg_unit : mkAgg [] = .p (.agg []) := rfl
attribute [go_sem] uv_def acells_unit mkAgg_unit
theorem look_bool {o : Option Unit} : lookV uv (.p (.agg [])) o = .tup [.p (.agg []), .p (bo o.isSome)] := by cases o <;> rfl

/-- The gates that are kept, and the new numbers. -/
def keepO (b : List Bool) (l : List Gate) : List Gate := if (selTo b l l.length).length = 0 then [nth l 0] else selTo b l l.length
def keepN (b : List Bool) (l : List Gate) : List Int := tab (fun j => ((selTo b l j).length : Int)) l.length
def gcs (l : List Gate) : List AV := (flat (pl gate l)).map .p
theorem gcs_nil : gcs [] = [] := rfl
theorem gcs_one {l : List Gate} {g : Gate} : gcs l ++ [.p (i64 g.l), .p (i64 g.r), .p (w64 g.c), .p (w64 g.a), .p (w64 g.b), .p (w64 g.d)] = gcs (l ++ [g]) := by simp [gcs, pl, flat, gate, PV.cells]
theorem gcs_len {l : List Gate} : (gcs l).length = l.length * 6 := by
  rw [gcs, List.length_map, flat_len (sz := 6) gate_len, pl_len]
theorem app_two {H : Hp} {x y z : AB} {S : List AB} : (app ((H.new x).new y) S).new z = app H (x :: y :: (S ++ [z])) := by simp [app]
attribute [go_sem] gcs_len gcs_one gcs_nil
def nums (b : List Bool) (l : List Gate) (i : Nat) : List Int := tab (fun j => if j < i then ((selTo b l j).length : Int) else 0) l.length
theorem nums_zero {b : List Bool} {l : List Gate} : nums b l 0 = List.replicate l.length 0 := nth_ext (by simp [nums, tab]) fun i hi => by
  rw [nums, tab_len] at hi
  rw [nums, nth_tab hi, if_neg (by omega), nth_replicate hi]
theorem nums_len {b : List Bool} {l : List Gate} {i : Nat} : (nums b l i).length = l.length := tab_len
theorem nums_succ {b : List Bool} {l : List Gate} {i : Nat} (h : i < l.length) : (nums b l i).set i ((selTo b l i).length : Int) = nums b l (i + 1) := nth_ext (by simp [nums, tab]) fun j hj => by
  rw [List.length_set, nums_len] at hj
  by_cases e : i = j
  · subst e; rw [nth_set_eq rfl (by rw [nums_len]; omega), nums, nth_tab hj, if_pos (by omega)]
  · rw [nth_set_ne e, nums, nums, nth_tab hj, nth_tab hj]
    by_cases e2 : j < i
    · rw [if_pos e2, if_pos (by omega)]
    · rw [if_neg e2, if_neg (by omega)]
theorem nums_all {b : List Bool} {l : List Gate} : nums b l l.length = keepN b l := tab_congr fun j hj => by rw [if_pos hj]

section walks
variable {G : Globs}

theorem optimize_Dead_c1_spec (c : Circ) (hc : Ok c) (i : Nat) (hi : i < (nth c.layers (c.layers.length - 1)).length) (a b : Nat) (H : Hp) (ha : H.f a = some (.cells (cc c))) (hb : H.f b = some (.cells [.p (i64 ((c.layers.length : Int) - 1))])) (R : AV → Hp → Prop)
    (h : R (.p (bo (want c (c.layers.length - 1) [] i))) H) : ACall Try.prog G 40 [.p (i64 i), .ptr a 0, .ptr b 0] H R := by
  refine ACall.of_run (raw := []) Try.func40 rfl Try.ntmps40 (by simp) fun hbel => ?_
  have hl := hc.len.2
  have hl1 := hc.len.1
  have hok := hc.okG (show c.layers.length - 1 < c.layers.length by omega) hi
  have hr := (hc.row (c.layers.length - 1) (by omega)).2
  rw [want, if_pos (by omega)] at h
  have hk : ((c.layers.length : Int) - 1) = ((c.layers.length - 1 : Nat) : Int) := by omega
  rw [hk] at hb
  generalize hg : nth (nth c.layers (c.layers.length - 1)) i = g at *
  have hka : c.layers.length - 1 < c.layers.length := by omega
  generalize c.layers.length - 1 = k at *
  have hla' := Hp.lt ha
  have hlb' := Hp.lt hb
  rw [cc_def] at ha
  (repeat refine .z rfl ?_); refine .text ?_; simp (disch := first | exact dsc | fail) only [go_sem, seval]
  (repeat refine .z rfl ?_); refine .text ?_; simp (disch := first | exact dsc | fail) only [go_sem, seval, ha, hb, hg]
  (repeat refine .z rfl ?_); refine .text ?_; simp (disch := first | exact dsc | fail) only [go_sem, seval, ha]
  (first | refine guarded_split (fun h1 => ?_) (fun h1 => ?_) | refine guardedD_split (fun h1 => ?_) (fun h1 => ?_)) <;> (try simp only [Bool.not_eq_true', Bool.not_eq_false'] at h1) <;> simp (disch := first | exact dsc | fail) only [go_sem, seval, h1, ha]
  · refine CallK.of (fun R h => optimize_constant_spec _ hok _ R h) ?_; simp (disch := first | exact dsc | fail) only [go_sem, seval]
    (first | refine guarded_split (fun h2 => ?_) (fun h2 => ?_) | refine guardedD_split (fun h2 => ?_) (fun h2 => ?_)) <;> (try simp only [Bool.not_eq_true', Bool.not_eq_false'] at h2) <;> simp (disch := first | exact dsc | fail) only [go_sem, seval, h2, h1]
    · rw [h1, h2] at h
      (repeat refine .z rfl ?_); refine .rt Try.func40 (by rw [Try.results40]) (hx := by simp (disch := first | exact dsc | fail) only [go_sem, seval, h1, h2]; rfl) (hR := ?_); simp (disch := first | exact dsc | fail) only [go_sem, seval, h1, h2]
      exact h
    · rw [h1, h2] at h
      (repeat refine .z rfl ?_); refine .rt Try.func40 (by rw [Try.results40]) (hx := by simp (disch := first | exact dsc | fail) only [go_sem, seval, h1, h2]; rfl) (hR := ?_); simp (disch := first | exact dsc | fail) only [go_sem, seval, h1, h2]
      exact h
  · rw [h1] at h
    (repeat refine .z rfl ?_); refine .rt Try.func40 (by rw [Try.results40]) (hx := by simp (disch := first | exact dsc | fail) only [go_sem, seval, h1]; rfl) (hR := ?_); simp (disch := first | exact dsc | fail) only [go_sem, seval, h1]
    exact h

theorem optimize_Dead_c2_spec (n : Int) (hn : okI n) (m : List (Int × Unit)) (hm : ∀ p ∈ m, okI p.1) (a b : Nat) (H : Hp) (ha : H.f a = some (.cells [.mp b])) (hb : H.f b = some (.mapB (tm iev uv m))) (R : AV → Hp → Prop)
    (h : R (.p (bo (assoc n m).isSome)) H) : ACall Try.prog G 45 [.p (i64 n), .ptr a 0] H R := by
  refine ACall.of_run (raw := []) Try.func45 rfl Try.ntmps45 (by simp) fun hbel => ?_
  have hlk := intMap.look (k := n) hm hn
  rw [look_bool] at hlk
  (repeat refine .z rfl ?_); refine .text ?_; simp (disch := first | exact dsc | fail) only [go_sem, seval]
  (repeat refine .z rfl ?_); refine .text ?_; simp (disch := first | exact dsc | fail) only [go_sem, seval, ha, hb, hlk]
  (repeat refine .z rfl ?_); refine .text ?_; simp (disch := first | exact dsc | fail) only [go_sem, seval]
  (repeat refine .z rfl ?_); refine .rt Try.func45 (by rw [Try.results45]) (hR := ?_); simp (disch := first | exact dsc | fail) only [go_sem, seval]
  exact h

set_option maxHeartbeats 8000000 in
theorem optimize_keep_spec (l : List Gate) (hl : l.length ≤ 1000) (hl1 : 1 ≤ l.length) (b : List Bool) (hb : b.length = l.length) (f : Nat) (caps : List AV) (hent : enters Try.prog f = true) (hcw : caps.map AV.weak = caps) (H : Hp)
    (hf : ∀ i, i < l.length → ∀ H', (∃ T, H' = app H T) → ∀ R : AV → Hp → Prop, R (.p (bo (nth b i))) H' → ACall Try.prog G f (.p (i64 i) :: caps) H' R) (R : AV → Hp → Prop)
    (h : ∀ T S, R (.tup [.vr (H.n + T.length) (keepO b l).length 6, .p (.sl false 1 (pl i64 (keepN b l)))]) (app ((app H T).new (.vec (gcs (keepO b l)))) S)) :
    ACall Try.prog G 42 [.p (.sl false 6 (pl gate l)), .clo f [] caps] H R := by
  refine ACall.of_run (raw := []) Try.func42 rfl Try.ntmps42 (by simp) fun hbel => ?_
  (repeat refine .z rfl ?_); refine .text ?_; simp (disch := first | exact dsc | fail) only [go_sem, seval]
  (repeat refine .z rfl ?_); refine .text ?_; simp (disch := first | exact dsc | fail) only [go_sem, seval]
  (repeat refine .z rfl ?_); refine .vec 6 (by simp (disch := first | exact dsc | fail) only [go_sem, seval]; rfl) ?_; (try simp (disch := first | exact dsc | fail) only [go_sem, seval])
  (repeat refine .z rfl ?_); refine .text ?_; simp (disch := first | exact dsc | fail) only [go_sem, seval]
  (repeat refine .z rfl ?_); refine .text ?_; simp (disch := first | exact dsc | fail) only [go_sem, seval]
  repeat refine .z rfl ?_
  refine .count (fun i env H' => env 0 = .p (.sl false 6 (pl gate l)) ∧ env 1 = .clo f [] caps ∧ env 6 = .vr H.n (selTo b l i).length 6 ∧ env 7 = .ref (H.n+1) 0 l.length 1 ∧ env 13 = .p (.sl false 6 (pl gate l)) ∧ env 14 = .p (i64 l.length) ∧ env 15 = .p (i64 i) ∧
    ∃ S, H' = app ((H.new (.vec (gcs (selTo b l i)))).new (.cells (cl i64 (nums b l i)))) S) 0 l.length (by omega) ?_ ?_ ?_
  · simp (disch := first | exact dsc | fail) only [go_sem, seval, nums_zero]
    exact ⟨rfl, [], rfl⟩
  · intro env H' ⟨e0, e1, e6, e7, e13, e14, e15, S, eH⟩
    subst eH
    have hs := selTo_le b l l.length
    rw [nums_all]
    have hkl : (keepN b l).length = l.length := tab_len
    have htk : (keepN b l).take l.length = keepN b l := by rw [← hkl, List.take_length]
    (repeat refine .z rfl ?_); refine .text ?_; simp (disch := first | exact dsc | fail) only [go_sem, seval, e14, e15]
    (repeat refine .z rfl ?_); refine .ifF (by simp (disch := first | exact dsc | fail) only [go_sem, seval]) ?_
    (repeat refine .z rfl ?_); refine .frzS 7 (by simp (disch := first | exact dsc | fail) only [go_sem, seval, e7, htk]; rfl) (by simp (disch := first | exact dsc | fail) only [go_sem, seval, e7, htk] <;> rfl) (fun _ => rfl) (by first | exact dsc | fail) ?_; (try simp (disch := first | exact dsc | fail) only [go_sem, seval, e7, htk])
    (repeat refine .z rfl ?_); refine .text ?_; simp (disch := first | exact dsc | fail) only [go_sem, seval, e6]
    (repeat refine .z rfl ?_); refine .ifB (by simp (disch := first | exact dsc | fail) only [go_sem, seval]; rfl) (fun hx => ?_) (fun hx => ?_)
    · have hx : (selTo b l l.length).length = 0 := by simp at hx; simpa using hx
      have hk : keepO b l = [nth l 0] := by rw [keepO, if_pos hx]
      rw [hk] at h
      have hz : selTo b l l.length = [] := List.eq_nil_of_length_eq_zero hx
      rw [hz] at e6 ⊢
      (repeat refine .z rfl ?_); refine .text ?_; simp (disch := first | exact dsc | fail) only [go_sem, seval, e0, e6]
      (repeat refine .z rfl ?_); refine .text ?_; simp (disch := first | exact dsc | fail) only [go_sem, seval]
      (repeat refine .z rfl ?_); refine .retKeep Try.func42 (by rw [Try.results42]) (by simp (disch := first | exact dsc | fail) only [go_sem, seval]; rfl) ?_; (try simp (disch := first | exact dsc | fail) only [go_sem, seval])
      exact h [] (.dead :: S)
    · have hx : ¬ (selTo b l l.length).length = 0 := by simp at hx; simpa using hx
      have hk : keepO b l = selTo b l l.length := by rw [keepO, if_neg hx]
      rw [hk] at h
      refine .skip ?_
      (repeat refine .z rfl ?_); refine .text ?_; simp (disch := first | exact dsc | fail) only [go_sem, seval, e6]
      (repeat refine .z rfl ?_); refine .retKeep Try.func42 (by rw [Try.results42]) (by simp (disch := first | exact dsc | fail) only [go_sem, seval]; rfl) ?_; (try simp (disch := first | exact dsc | fail) only [go_sem, seval])
      exact h [] (.dead :: S)
  · intro i env H' _ hi ⟨e0, e1, e6, e7, e13, e14, e15, S, eH⟩ ih
    subst eH
    have hs := selTo_le b l i
    have hnl : (nums b l i).length = l.length := nums_len
    have hns := nums_succ (b := b) hi
    have hfi := hf i hi
    simp only [selTo] at ih
    (repeat refine .z rfl ?_); refine .text ?_; simp (disch := first | exact dsc | fail) only [go_sem, seval, e14, e15]
    (repeat refine .z rfl ?_); refine .ifT (by simp (disch := first | exact dsc | fail) only [go_sem, seval]) ?_
    (repeat refine .z rfl ?_); refine .text ?_; simp (disch := first | exact dsc | fail) only [go_sem, seval, e13, e15]
    (repeat refine .z rfl ?_); refine .text ?_; simp (disch := first | exact dsc | fail) only [go_sem, seval, e6, e7, hns]
    (repeat refine .z rfl ?_); refine .text ?_; simp (disch := first | exact dsc | fail) only [go_sem, seval, e1, hent, hcw]
    refine CallK.of (fun R h => hfi _ ⟨_, app_two⟩ R h) ?_; simp (disch := first | exact dsc | fail) only [go_sem, seval]
    (repeat refine .z rfl ?_); refine .ifB (by simp (disch := first | exact dsc | fail) only [go_sem, seval]; rfl) (fun hx => ?_) (fun hx => ?_)
    · simp only [hx, if_true] at ih
      (repeat refine .z rfl ?_); refine .text ?_; simp (disch := first | exact dsc | fail) only [go_sem, seval, e6]
      (repeat refine .z rfl ?_); refine .text ?_; simp (disch := first | exact dsc | fail) only [go_sem, seval, e15]
      refine ih _ _ ?_
      simp (disch := first | exact dsc | fail) only [go_sem, seval, e0, e1, e6, e7, e13, e14, e15]
      exact ⟨_, app_new⟩
    · simp only [hx, Bool.false_eq_true, if_false] at ih
      refine .skip ?_
      (repeat refine .z rfl ?_); refine .text ?_; simp (disch := first | exact dsc | fail) only [go_sem, seval, e15]
      refine ih _ _ ?_
      simp (disch := first | exact dsc | fail) only [go_sem, seval, e0, e1, e6, e7, e13, e14, e15]
      exact ⟨_, app_new⟩
end walks
end Go.Proofs.Ytjnbifkojpfdgaa

/-
  New numbers for the operands of a layer.
-/
namespace Go.Proofs.Ytjnbifkojpfdgaa
open Go Go.AL

theorem gcs_cons {g : Gate} {l : List Gate} : gcs (g :: l) = gc g ++ gcs l := by simp [gcs, pl, flat, gate, PV.cells, gc]
theorem gcs_drop {l : List Gate} : ∀ {i : Nat}, (gcs l).drop (i * 6) = gcs (l.drop i) := by
  induction l with
  | nil => intro i; simp [gcs_nil]
  | cons g l ih =>
    intro i
    cases i with
    | zero => rfl
    | succ i =>
      rw [gcs_cons, show (i + 1) * 6 = 6 + i * 6 by omega, ← List.drop_drop, List.drop_succ_cons]
      exact ih
theorem gcs_sub {l : List Gate} {i : Nat} (h : i < l.length) : ((gcs l).drop (i * 6)).take 6 = gc (nth l i) := by
  rw [gcs_drop, List.drop_eq_getElem_cons h, gcs_cons, show l[i] = nth l i by simp [nth, h]]
  rfl
theorem gcs_get {l : List Gate} {i j : Nat} (h : i < l.length) (hj : j < 6) : (gcs l)[i * 6 + j]? = (gc (nth l i))[j]? := by
  rw [← gcs_sub h, List.getElem?_take_of_lt hj, List.getElem?_drop]
theorem gcs_set {l : List Gate} : ∀ {i j : Nat} {x : AV} {g : Gate}, i < l.length → j < 6 → (gc (nth l i)).set j x = gc g → (gcs l).set (i * 6 + j) x = gcs (l.set i g) := by
  induction l with
  | nil => intro i j x g h; simp at h
  | cons a l ih =>
    intro i j x g h hj hg
    cases i with
    | zero =>
      rw [Nat.zero_mul, Nat.zero_add, List.set_cons_zero, gcs_cons, gcs_cons, ← hg, List.set_append_left _ _ (by simpa [gc] using hj)]
      rfl
    | succ i =>
      rw [List.set_cons_succ, gcs_cons, gcs_cons, show (i + 1) * 6 + j = (gc a).length + (i * 6 + j) by simp [gc]; omega, List.set_append_right _ _ (by omega), Nat.add_sub_cancel_left]
      rw [ih (i := i) (by simpa using h) hj hg]
theorem gcs_get0 {l : List Gate} {i : Nat} (h : i < l.length) : (gcs l)[i * 6]? = some (.p (i64 (nth l i).l)) := gcs_get (j := 0) h (by omega)
theorem gcs_get1 {l : List Gate} {i : Nat} (h : i < l.length) : (gcs l)[i * 6 + 1]? = some (.p (i64 (nth l i).r)) := gcs_get (j := 1) h (by omega)
def setL (g : Gate) (x : Int) : Gate := ⟨x, g.r, g.c, g.a, g.b, g.d⟩
def setR (g : Gate) (x : Int) : Gate := ⟨g.l, x, g.c, g.a, g.b, g.d⟩
theorem gcs_set0 {l : List Gate} {i : Nat} {x : Int} (h : i < l.length) : (gcs l).set (i * 6) (.p (i64 x)) = gcs (l.set i (setL (nth l i) x)) := gcs_set (j := 0) h (by omega) rfl
theorem gcs_set1 {l : List Gate} {i : Nat} {x : Int} (h : i < l.length) : (gcs l).set (i * 6 + 1) (.p (i64 x)) = gcs (l.set i (setR (nth l i) x)) := gcs_set (j := 1) h (by omega) rfl

/-- The first gates have been changed. -/
def chTo (f : Gate → Gate) (l : List Gate) (i : Nat) : List Gate := tab (fun j => if j < i then f (nth l j) else nth l j) l.length
theorem chTo_zero {f : Gate → Gate} {l : List Gate} : chTo f l 0 = l := by
  refine (tab_congr fun j hj => ?_).trans (tab_nth l)
  rw [if_neg (by omega)]
theorem chTo_all {f : Gate → Gate} {l : List Gate} : chTo f l l.length = l.map f := nth_ext (by simp [chTo, tab]) fun j hj => by
  rw [chTo, tab_len] at hj
  rw [chTo, nth_tab hj, if_pos hj, nth_map hj]
theorem chTo_len {f : Gate → Gate} {l : List Gate} {i : Nat} : (chTo f l i).length = l.length := tab_len
theorem chTo_nth {f : Gate → Gate} {l : List Gate} {i : Nat} (h : i < l.length) : nth (chTo f l i) i = nth l i := by rw [chTo, nth_tab h, if_neg (by omega)]
theorem chTo_succ {f : Gate → Gate} {l : List Gate} {i : Nat} (h : i < l.length) : (chTo f l i).set i (f (nth l i)) = chTo f l (i + 1) := nth_ext (by simp [chTo, tab]) fun j hj => by
  rw [List.length_set, chTo_len] at hj
  by_cases e : i = j
  · subst e; rw [nth_set_eq rfl (by rw [chTo_len]; omega), chTo, nth_tab hj, if_pos (by omega)]
  · rw [nth_set_ne e, chTo, chTo, nth_tab hj, nth_tab hj]
    by_cases e2 : j < i
    · rw [if_pos e2, if_pos (by omega)]
    · rw [if_neg e2, if_neg (by omega)]
def reN (ns : List Int) (g : Gate) : Gate := ⟨nth ns g.l.toNat, nth ns g.r.toNat, g.c, g.a, g.b, g.d⟩

theorem set_nth_self {l : List Gate} {i : Nat} : l.set i (nth l i) = l := nth_ext (by simp) fun j hj => by
  by_cases e : i = j
  · subst e; rw [nth_set_eq rfl (by simpa using hj)]
  · rw [nth_set_ne e]
theorem bel_gcs {n b : Nat} {H : Hp} {l : List Gate} (h : Bel n H) : Bel n (H.set b (.vec (gcs l))) := fun c x hc hf y hy => by
  rw [Hp.f_set] at hf
  split at hf
  · cases hf
    simp only [AB.vals] at hy
    simp only [gcs, List.mem_map, Option.getD_some] at hy
    obtain ⟨z, _, rfl⟩ := hy
    exact .p _
  · exact h c x hc hf y hy

section walks
variable {G : Globs}

set_option maxHeartbeats 8000000 in
theorem optimize_renumber_nil_spec (l : List Gate) (hl : l.length ≤ 1000) (b : Nat) (H : Hp) (hb : H.f b = some (.vec (gcs l))) (R : AV → Hp → Prop) (h : R (.tup []) (H.set b (.vec (gcs (l.map zeroU))))) :
    ACall Try.prog G 46 [.vr b l.length 6, .p (.s (.slice none 0 0))] H R := by
  refine ACall.of_run (raw := []) Try.func46 rfl Try.ntmps46 (by simp) fun hbel => ?_
  have hbl := Hp.lt hb
  (repeat refine .z rfl ?_); refine .text ?_; simp (disch := first | exact dsc | fail) only [go_sem, seval]
  repeat refine .z rfl ?_
  refine .count (fun i env H' => env 0 = .vr b l.length 6 ∧ env 1 = .p (.s (.slice none 0 0)) ∧ env 7 = .p (i64 l.length) ∧ env 8 = .p (i64 i) ∧ H' = H.set b (.vec (gcs (chTo zeroU l i)))) 0 l.length (by omega) ?_ ?_ ?_
  · simp (disch := first | exact dsc | fail) only [go_sem, seval]
    rw [chTo_zero, Hp.set_same H _ b hb]
  · intro env H' ⟨e0, e1, e7, e8, eH⟩
    subst eH
    rw [chTo_all]
    have hbel : ∀ ll : List Gate, Bel H.n (H.set b (.vec (gcs ll))) := fun ll => bel_gcs hbel
    (repeat refine .z rfl ?_); refine .text ?_; simp (disch := first | exact dsc | fail) only [go_sem, seval, e7, e8]
    (repeat refine .z rfl ?_); refine .ifF (by simp (disch := first | exact dsc | fail) only [go_sem, seval]) ?_
    (repeat refine .z rfl ?_); refine .fin Try.func46 (by rw [Try.results46]) (by simp (disch := first | exact dsc | fail) only [go_sem, seval]; rfl) (by simp (disch := first | exact dsc | fail) only [go_sem, seval]; rfl) (by (try dsimp only); repeat (first | with_reducible refine bel_new ?_ dsc | with_reducible refine bel_appl ?_ dsc | with_reducible refine bel_set ?_ dsc | with_reducible refine bel_cl ?_ | with_reducible exact hbel | with_reducible exact hbel _)) ?_; simp (disch := first | exact dsc | fail) only [go_sem, seval]
    exact h
  · intro i env H' _ hi ⟨e0, e1, e7, e8, eH⟩ ih
    subst eH
    have hsu := chTo_succ (f := zeroU) hi
    have hnn := chTo_nth (f := zeroU) hi
    have hcl : (chTo zeroU l i).length = l.length := chTo_len
    rw [← hsu] at ih
    generalize nth l i = g at *
    generalize chTo zeroU l i = ll at *
    (repeat refine .z rfl ?_); refine .text ?_; simp (disch := first | exact dsc | fail) only [go_sem, seval, e7, e8]
    (repeat refine .z rfl ?_); refine .ifT (by simp (disch := first | exact dsc | fail) only [go_sem, seval]) ?_
    (repeat refine .z rfl ?_); refine .text ?_; simp (disch := first | exact dsc | fail) only [go_sem, seval, e8]
    (repeat refine .z rfl ?_); refine .text ?_; simp (disch := first | exact dsc | fail) only [go_sem, seval, e0]
    (repeat refine .z rfl ?_); refine .text ?_; simp (disch := first | exact dsc | fail) only [go_sem, seval, e1]
    (repeat refine .z rfl ?_); refine .ifF (by simp (disch := first | exact dsc | fail) only [go_sem, seval]) ?_
    (repeat refine .z rfl ?_); refine .text ?_; simp (disch := first | exact dsc | fail) only [go_sem, seval, hnn, gcs_sub]
    refine CallK.of (fun R h => optimize_usesLeft_spec _ _ R h) ?_; simp (disch := first | exact dsc | fail) only [go_sem, seval]
    (repeat refine .z rfl ?_); refine .cut (fun env' H' => env' 0 = .vr b l.length 6 ∧ env' 1 = .p (.s (.slice none 0 0)) ∧ env' 5 = .vp b (l.length * 6) (i * 6) ∧ env' 7 = .p (i64 l.length) ∧ env' 8 = .p (i64 i) ∧ H' = H.set b (.vec (gcs (ll.set i (n3 g))))) (fun ih => ?_) ?_
    · (repeat refine .z rfl ?_); refine .ifB (by simp (disch := first | exact dsc | fail) only [go_sem, seval]; rfl) (fun hc => ?_) (fun hc => ?_)
      · have e4 : n3 g = setL g 0 := by simp only [n3, hc, if_true]; rfl
        (repeat refine .z rfl ?_); refine .text ?_; simp (disch := first | exact dsc | fail) only [go_sem, seval, gcs_set0, hnn]
        refine ih _ _ ?_
        simp (disch := first | exact dsc | fail) only [go_sem, seval, e0, e1, e7, e8, e4]
      · have e4 : n3 g = g := by simp only [n3, hc, Bool.false_eq_true, if_false]
        have e5 : ll.set i g = ll := by rw [← hnn]; exact set_nth_self
        refine .skip ?_
        refine ih _ _ ?_
        simp (disch := first | exact dsc | fail) only [go_sem, seval, e0, e1, e7, e8, e4, e5]
    intro env' H' ⟨f0, f1, f5, f7, f8, eH⟩
    subst eH
    have hc2 : (ll.set i (n3 g)).length = l.length := by rw [List.length_set]; exact hcl
    have hn2 : nth (ll.set i (n3 g)) i = n3 g := nth_set_eq rfl (by omega)
    have hz : (ll.set i (n3 g)).set i (m4 (n3 g)) = ll.set i (zeroU g) := by rw [List.set_set]; rfl
    rw [← hz] at ih
    generalize ll.set i (n3 g) = ll2 at *
    generalize n3 g = g2 at *
    (repeat refine .z rfl ?_); refine .text ?_; simp (disch := first | exact dsc | fail) only [go_sem, seval, f5, hn2, gcs_sub]
    refine CallK.of (fun R h => optimize_usesRight_spec _ _ R h) ?_; simp (disch := first | exact dsc | fail) only [go_sem, seval]
    (repeat refine .z rfl ?_); refine .ifB (by simp (disch := first | exact dsc | fail) only [go_sem, seval]; rfl) (fun hc => ?_) (fun hc => ?_)
    · have e4 : m4 g2 = setR g2 0 := by simp only [m4, hc, if_true]; rfl
      (repeat refine .z rfl ?_); refine .text ?_; simp (disch := first | exact dsc | fail) only [go_sem, seval, f5, gcs_set1, hn2]
      (repeat refine .z rfl ?_); refine .text ?_; simp (disch := first | exact dsc | fail) only [go_sem, seval, f8]
      refine ih _ _ ?_
      simp (disch := first | exact dsc | fail) only [go_sem, seval, f0, f1, f7, f8, e4]
    · have e4 : m4 g2 = g2 := by simp only [m4, hc, Bool.false_eq_true, if_false]
      have e5 : ll2.set i g2 = ll2 := by rw [← hn2]; exact set_nth_self
      refine .skip ?_
      (repeat refine .z rfl ?_); refine .text ?_; simp (disch := first | exact dsc | fail) only [go_sem, seval, f8]
      refine ih _ _ ?_
      simp (disch := first | exact dsc | fail) only [go_sem, seval, f0, f1, f7, f8, e4, e5]
set_option maxHeartbeats 8000000 in
theorem optimize_renumber_spec (l : List Gate) (hl : l.length ≤ 1000) (ns : List Int) (hns : 0 < ns.length) (hin : ∀ i, i < l.length → opG ns.length (nth l i)) (b : Nat) (H : Hp) (hb : H.f b = some (.vec (gcs l))) (R : AV → Hp → Prop) (h : R (.tup []) (H.set b (.vec (gcs (l.map fun g => zeroU (reN ns g)))))) :
    ACall Try.prog G 46 [.vr b l.length 6, .p (.sl false 1 (pl i64 ns))] H R := by
  refine ACall.of_run (raw := []) Try.func46 rfl Try.ntmps46 (by simp) fun hbel => ?_
  have hbl := Hp.lt hb
  (repeat refine .z rfl ?_); refine .text ?_; simp (disch := first | exact dsc | fail) only [go_sem, seval]
  repeat refine .z rfl ?_
  refine .count (fun i env H' => env 0 = .vr b l.length 6 ∧ env 1 = .p (.sl false 1 (pl i64 ns)) ∧ env 7 = .p (i64 l.length) ∧ env 8 = .p (i64 i) ∧ H' = H.set b (.vec (gcs (chTo (fun g => zeroU (reN ns g)) l i)))) 0 l.length (by omega) ?_ ?_ ?_
  · simp (disch := first | exact dsc | fail) only [go_sem, seval]
    rw [chTo_zero, Hp.set_same H _ b hb]
  · intro env H' ⟨e0, e1, e7, e8, eH⟩
    subst eH
    rw [chTo_all]
    have hbel : ∀ ll : List Gate, Bel H.n (H.set b (.vec (gcs ll))) := fun ll => bel_gcs hbel
    (repeat refine .z rfl ?_); refine .text ?_; simp (disch := first | exact dsc | fail) only [go_sem, seval, e7, e8]
    (repeat refine .z rfl ?_); refine .ifF (by simp (disch := first | exact dsc | fail) only [go_sem, seval]) ?_
    (repeat refine .z rfl ?_); refine .fin Try.func46 (by rw [Try.results46]) (by simp (disch := first | exact dsc | fail) only [go_sem, seval]; rfl) (by simp (disch := first | exact dsc | fail) only [go_sem, seval]; rfl) (by (try dsimp only); repeat (first | with_reducible refine bel_new ?_ dsc | with_reducible refine bel_appl ?_ dsc | with_reducible refine bel_set ?_ dsc | with_reducible refine bel_cl ?_ | with_reducible exact hbel | with_reducible exact hbel _)) ?_; simp (disch := first | exact dsc | fail) only [go_sem, seval]
    exact h
  · intro i env H' _ hi ⟨e0, e1, e7, e8, eH⟩ ih
    subst eH
    have hsu := chTo_succ (f := fun g => zeroU (reN ns g)) hi
    have hnn := chTo_nth (f := fun g => zeroU (reN ns g)) hi
    have hcl : (chTo (fun g => zeroU (reN ns g)) l i).length = l.length := chTo_len
    rw [← hsu] at ih
    obtain ⟨o1, o2, o3, o4⟩ := hin i hi
    generalize nth l i = g at *
    generalize chTo (fun g => zeroU (reN ns g)) l i = ll at *
    (repeat refine .z rfl ?_); refine .text ?_; simp (disch := first | exact dsc | fail) only [go_sem, seval, e7, e8]
    (repeat refine .z rfl ?_); refine .ifT (by simp (disch := first | exact dsc | fail) only [go_sem, seval]) ?_
    (repeat refine .z rfl ?_); refine .text ?_; simp (disch := first | exact dsc | fail) only [go_sem, seval, e8]
    (repeat refine .z rfl ?_); refine .text ?_; simp (disch := first | exact dsc | fail) only [go_sem, seval, e0]
    (repeat refine .z rfl ?_); refine .text ?_; simp (disch := first | exact dsc | fail) only [go_sem, seval, e1]
    (repeat refine .z rfl ?_); refine .ifT (by simp (disch := first | exact dsc | fail) only [go_sem, seval]) ?_
    have hrr : setR (setL g (nth ns g.l.toNat)) (nth ns g.r.toNat) = reN ns g := rfl
    have hn1 : nth (ll.set i (setL g (nth ns g.l.toNat))) i = setL g (nth ns g.l.toNat) := nth_set_eq rfl (by omega)
    (repeat refine .z rfl ?_); refine .openT [18, 21] follows (by kernel_rfl) ?_; simp (disch := first | exact dsc | fail) only [go_sem, seval, e1, gcs_get0, gcs_get1, gcs_set0, gcs_set1, hnn, hn1, hrr, List.set_set]
    have hnn2 : nth (ll.set i (reN ns g)) i = reN ns g := nth_set_eq rfl (by omega)
    have hcl2 : (ll.set i (reN ns g)).length = l.length := by rw [List.length_set]; exact hcl
    have hss : ll.set i (zeroU (reN ns g)) = (ll.set i (reN ns g)).set i (zeroU (reN ns g)) := by rw [List.set_set]
    rw [hss] at ih
    clear hnn hn1 hss hsu hcl hrr
    generalize ll.set i (reN ns g) = l1 at *
    generalize reN ns g = g1 at *

    clear o1 o2 o3 o4
    have hnn := hnn2
    have hcl := hcl2
    clear hnn2 hcl2
    (repeat refine .z rfl ?_); refine .text ?_; simp (disch := first | exact dsc | fail) only [go_sem, seval, hnn, gcs_sub]
    refine CallK.of (fun R h => optimize_usesLeft_spec _ _ R h) ?_; simp (disch := first | exact dsc | fail) only [go_sem, seval]
    (repeat refine .z rfl ?_); refine .cut (fun env' H' => env' 0 = .vr b l.length 6 ∧ env' 1 = .p (.sl false 1 (pl i64 ns)) ∧ env' 5 = .vp b (l.length * 6) (i * 6) ∧ env' 7 = .p (i64 l.length) ∧ env' 8 = .p (i64 i) ∧ H' = H.set b (.vec (gcs (l1.set i (n3 g1))))) (fun ih => ?_) ?_
    · (repeat refine .z rfl ?_); refine .ifB (by simp (disch := first | exact dsc | fail) only [go_sem, seval]; rfl) (fun hc => ?_) (fun hc => ?_)
      · have e4 : n3 g1 = setL g1 0 := by simp only [n3, hc, if_true]; rfl
        (repeat refine .z rfl ?_); refine .text ?_; simp (disch := first | exact dsc | fail) only [go_sem, seval, gcs_set0, hnn]
        refine ih _ _ ?_
        simp (disch := first | exact dsc | fail) only [go_sem, seval, e0, e1, e7, e8, e4]
      · have e4 : n3 g1 = g1 := by simp only [n3, hc, Bool.false_eq_true, if_false]
        have e5 : l1.set i g1 = l1 := by rw [← hnn]; exact set_nth_self
        refine .skip ?_
        refine ih _ _ ?_
        simp (disch := first | exact dsc | fail) only [go_sem, seval, e0, e1, e7, e8, e4, e5]
    intro env' H' ⟨f0, f1, f5, f7, f8, eH⟩
    subst eH
    have hc2 : (l1.set i (n3 g1)).length = l.length := by rw [List.length_set]; exact hcl
    have hn2 : nth (l1.set i (n3 g1)) i = n3 g1 := nth_set_eq rfl (by omega)
    have hz : (l1.set i (n3 g1)).set i (m4 (n3 g1)) = l1.set i (zeroU g1) := by rw [List.set_set]; rfl
    rw [← hz] at ih
    generalize l1.set i (n3 g1) = ll2 at *
    generalize n3 g1 = g2 at *
    (repeat refine .z rfl ?_); refine .text ?_; simp (disch := first | exact dsc | fail) only [go_sem, seval, f5, hn2, gcs_sub]
    refine CallK.of (fun R h => optimize_usesRight_spec _ _ R h) ?_; simp (disch := first | exact dsc | fail) only [go_sem, seval]
    (repeat refine .z rfl ?_); refine .ifB (by simp (disch := first | exact dsc | fail) only [go_sem, seval]; rfl) (fun hc => ?_) (fun hc => ?_)
    · have e4 : m4 g2 = setR g2 0 := by simp only [m4, hc, if_true]; rfl
      (repeat refine .z rfl ?_); refine .text ?_; simp (disch := first | exact dsc | fail) only [go_sem, seval, f5, gcs_set1, hn2]
      (repeat refine .z rfl ?_); refine .text ?_; simp (disch := first | exact dsc | fail) only [go_sem, seval, f8]
      refine ih _ _ ?_
      simp (disch := first | exact dsc | fail) only [go_sem, seval, f0, f1, f7, f8, e4]
    · have e4 : m4 g2 = g2 := by simp only [m4, hc, Bool.false_eq_true, if_false]
      have e5 : ll2.set i g2 = ll2 := by rw [← hn2]; exact set_nth_self
      refine .skip ?_
      (repeat refine .z rfl ?_); refine .text ?_; simp (disch := first | exact dsc | fail) only [go_sem, seval, f8]
      refine ih _ _ ?_
      simp (disch := first | exact dsc | fail) only [go_sem, seval, f0, f1, f7, f8, e4, e5]
end walks
end Go.Proofs.Ytjnbifkojpfdgaa

/-
  Removing unused gates: the walk of the program.
-/
namespace Go.Proofs.Ytjnbifkojpfdgaa
open Go Go.AL

/-- The gates that the program keeps in the layers, from the last one on, and their new numbers. -/
def gw (c : Circ) : Nat → List Gate
  | 0 => keepO (tab (want c (c.layers.length - 1) []) (nth c.layers (c.layers.length - 1)).length) (nth c.layers (c.layers.length - 1))
  | d + 1 => keepO (tab (want c (c.layers.length - 2 - d) (gw c d)) (nth c.layers (c.layers.length - 2 - d)).length) (nth c.layers (c.layers.length - 2 - d))
def gwN (c : Circ) (d : Nat) : List Gate := if d = 0 then [] else gw c (d - 1)
/-- Which gates of the layer are wanted. -/
def fw (c : Circ) (d : Nat) : List Bool := tab (want c (c.layers.length - 1 - d) (gwN c d)) (nth c.layers (c.layers.length - 1 - d)).length
theorem gw_eq {c : Circ} (d : Nat) : gw c d = keepO (fw c d) (nth c.layers (c.layers.length - 1 - d)) := by
  cases d with
  | zero => rfl
  | succ d => simp only [gw, fw, gwN, show c.layers.length - 1 - (d + 1) = c.layers.length - 2 - d by omega, Nat.succ_ne_zero, if_false, Nat.add_sub_cancel]
/-- The new numbers of a layer's gates. -/
def gnum (c : Circ) (k : Nat) : List Int := keepN (fw c (c.layers.length - 1 - k)) (nth c.layers k)
/-- A layer of the result. -/
def gf (c : Circ) (k : Nat) : List Gate := (gw c (c.layers.length - 1 - k)).map (if k = 0 then zeroU else fun g => zeroU (reN (gnum c (k - 1)) g))
def deadG (c : Circ) : Circ := ⟨c.inputs, tab (gf c) c.layers.length, c.sums⟩

theorem keepO_le {b : List Bool} {l : List Gate} (h : 1 ≤ l.length) : 1 ≤ (keepO b l).length ∧ (keepO b l).length ≤ l.length := by
  unfold keepO
  have := selTo_le b l l.length
  split
  · simp; omega
  · omega
theorem selTo_mem {b : List Bool} {l : List Gate} {Pr : Gate → Prop} (h : ∀ i, i < l.length → Pr (nth l i)) : ∀ i, i ≤ l.length → ∀ j, j < (selTo b l i).length → Pr (nth (selTo b l i) j)
  | 0, _, j, hj => absurd hj (by simp [selTo])
  | i + 1, hi, j, hj => by
    have ih := selTo_mem (b := b) h i (by omega)
    simp only [selTo] at hj ⊢
    split at hj
    · rename_i hb
      rw [if_pos hb]
      by_cases e : j < (selTo b l i).length
      · rw [nth_append_l e]; exact ih j e
      · rw [nth_append_r (by omega), show j - (selTo b l i).length = 0 by simp at hj; omega, nth_cons_zero]
        exact h i (by omega)
    · rename_i hb
      rw [if_neg hb]
      exact ih j hj
theorem keepO_mem {b : List Bool} {l : List Gate} {Pr : Gate → Prop} (hl : 1 ≤ l.length) (h : ∀ i, i < l.length → Pr (nth l i)) : ∀ j, j < (keepO b l).length → Pr (nth (keepO b l) j) := by
  unfold keepO
  split
  · intro j hj
    have : j = 0 := by simpa using hj
    subst this
    exact h 0 (by omega)
  · exact selTo_mem h _ (Nat.le_refl _)
theorem gw_len {c : Circ} (hc : Ok c) {d : Nat} (hd : d < c.layers.length) : 1 ≤ (gw c d).length ∧ (gw c d).length ≤ 1000 := by
  have h1 := hc.row (c.layers.length - 1 - d) (by omega)
  have h2 := keepO_le (b := fw c d) h1.1
  rw [gw_eq]
  omega
theorem gw_op {c : Circ} (hc : Ok c) {d : Nat} (hd : d < c.layers.length) : ∀ j, j < (gw c d).length → opG (wid c (c.layers.length - 1 - d)) (nth (gw c d) j) := by
  rw [gw_eq]
  exact keepO_mem (hc.row (c.layers.length - 1 - d) (by omega)).1 (hc.op (c.layers.length - 1 - d) (by omega))

/-- The layers that are done. -/
def pd (c : Circ) (d : Nat) : List (List Gate) := tab (fun j => if c.layers.length + 1 ≤ j + d then gf c j else []) c.layers.length
theorem pd_len {c : Circ} {d : Nat} : (pd c d).length = c.layers.length := tab_len
theorem pd_zero {c : Circ} : pd c 0 = List.replicate c.layers.length [] := nth_ext (by simp [pd, tab]) fun i hi => by
  rw [pd_len] at hi
  rw [pd, nth_tab hi, if_neg (by omega), nth_replicate hi]
theorem pd_one {c : Circ} : pd c 1 = pd c 0 := tab_congr fun j hj => by rw [if_neg (by omega), if_neg (by omega)]
theorem pd_succ {c : Circ} {d : Nat} (h0 : 0 < d) (h : d ≤ c.layers.length) : (pd c d).set (c.layers.length - d) (gf c (c.layers.length - d)) = pd c (d + 1) := nth_ext (by simp [pd, tab]) fun j hj => by
  rw [List.length_set, pd_len] at hj
  by_cases e : c.layers.length - d = j
  · rw [nth_set_eq e (by rw [pd_len]; omega), e, pd, nth_tab hj, if_pos (by omega)]
  · rw [nth_set_ne e, pd, pd, nth_tab hj, nth_tab hj]
    by_cases e2 : c.layers.length + 1 ≤ j + d
    · rw [if_pos e2, if_pos (by omega)]
    · rw [if_neg e2, if_neg (by omega)]
theorem pd_all {c : Circ} : pd c (c.layers.length + 1) = tab (gf c) c.layers.length := tab_congr fun j _ => by rw [if_pos (by omega)]

/-- The memory behind the first region: the two names stand in either order. -/
structure DB (H : Hp) (c : Circ) (B : Hp) (a b : Nat) : Prop where
  n : B.n = H.n + 4
  f0 : B.f H.n = some (.cells (cc c))
  f1 : B.f (H.n + 1) = some (.cells [.p (i64 0), .p (.sl true 1 []), .p (i64 0)])
  fa : B.f a = some (.cells (cl (PV.sl true 6) (List.replicate c.layers.length [])))
  fb : B.f b = some (.cells [.p (i64 c.inputs), .ref a 0 c.layers.length 1, .p (i64 c.sums)])
  la : H.n + 2 ≤ a ∧ a < H.n + 4
  lb : H.n + 2 ≤ b ∧ b < H.n + 4
  ne : a ≠ b
  bel : Bel H.n B
  tr : B.trunc H.n = H

/-- The memory between the rounds. -/
structure DX (H : Hp) (c : Circ) (a b : Nat) (rows : List AV) (X : Hp) : Prop where
  n : H.n + 5 ≤ X.n
  f0 : X.f H.n = some (.cells [.p (i64 c.inputs), .p (.sl false 1 (pl (sle 6 gate) c.layers)), .p (i64 c.sums)])
  f1 : X.f (H.n + 1) = some (.cells [.p (i64 0), .p (.sl true 1 []), .p (i64 0)])
  fa : X.f a = some (.cells rows)
  fb : X.f b = some (.cells [.p (i64 c.inputs), .ref a 0 c.layers.length 1, .p (i64 c.sums)])
  f4 : X.f (H.n + 4) = some (.cells [.p (i64 ((c.layers.length : Int) - 1))])
  bel : Bel H.n X
  tr : X.trunc H.n = H
/-- The closure tells which gates are wanted. -/
structure CP (G : Globs) (c : Circ) (X : Hp) (d f : Nat) (caps : List AV) : Prop where
  ent : enters Try.prog f = true
  weak : caps.map AV.weak = caps
  call : ∀ i, i < (nth c.layers (c.layers.length - 1 - d)).length → ∀ H', (∃ T, H' = app X T) → ∀ R : AV → Hp → Prop, R (.p (bo (nth (fw c d) i))) H' → ACall Try.prog G f (.p (i64 i) :: caps) H' R
theorem fw_len {c : Circ} {d : Nat} : (fw c d).length = (nth c.layers (c.layers.length - 1 - d)).length := tab_len
/-- One heap holds what another does, and more. -/
structure Ext (H X Y : Hp) : Prop where
  n : X.n ≤ Y.n
  f : ∀ z, z < X.n → Y.f z = X.f z
  bel : Bel H.n X → Bel H.n Y
  tr : Y.trunc H.n = X.trunc H.n
theorem Ext.app {H X : Hp} {T : List AB} (h : H.n ≤ X.n) : Ext H X (app X T) := ⟨by rw [app_n']; omega, fun z hz => app_f hz, fun hb => bel_appl hb h, app_trunc h⟩
theorem Ext.new {H X : Hp} {x : AB} (h : H.n ≤ X.n) : Ext H X (X.new x) := ⟨by rw [n_new']; omega, fun z hz => Hp.f_new_old X x z hz, fun hb => bel_new hb h, by rw [Hp.trunc_new X x H.n h]⟩
theorem Ext.trans {H X Y Z : Hp} (h1 : Ext H X Y) (h2 : Ext H Y Z) : Ext H X Z := ⟨Nat.le_trans h1.n h2.n, fun z hz => (h2.f z (Nat.lt_of_lt_of_le hz h1.n)).trans (h1.f z hz), fun h => h2.bel (h1.bel h), h2.tr.trans h1.tr⟩
section dx
variable {H X Y : Hp} {c : Circ} {a b : Nat} {rows : List AV}
theorem DX.ext (h : DX H c a b rows X) (e : Ext H X Y) : DX H c a b rows Y where
  n := Nat.le_trans h.n e.n
  f0 := (e.f _ (Hp.lt h.f0)).trans h.f0
  f1 := (e.f _ (Hp.lt h.f1)).trans h.f1
  fa := (e.f _ (Hp.lt h.fa)).trans h.fa
  fb := (e.f _ (Hp.lt h.fb)).trans h.fb
  f4 := (e.f _ (Hp.lt h.f4)).trans h.f4
  bel := e.bel h.bel
  tr := e.tr.trans h.tr
theorem DX.le (h : DX H c a b rows X) : H.n ≤ X.n := by have := h.n; omega
theorem DX.new {x : AB} (h : DX H c a b rows X) : DX H c a b rows (X.new x) := h.ext (Ext.new h.le)
theorem DX.app {T : List AB} (h : DX H c a b rows X) : DX H c a b rows (app X T) := h.ext (Ext.app h.le)
theorem DX.setA {rows' : List AV} (h : DX H c a b rows X) (ha : H.n + 2 ≤ a ∧ a < H.n + 4) (hab : a ≠ b) : DX H c a b rows' (X.set a (.cells rows')) where
  n := h.n
  f0 := by rw [Hp.f_set_ne _ _ _ _ (by omega)]; exact h.f0
  f1 := by rw [Hp.f_set_ne _ _ _ _ (by omega)]; exact h.f1
  fa := Hp.f_set_self _ _ _ (Hp.lt h.fa)
  fb := by rw [Hp.f_set_ne _ _ _ _ (Ne.symm hab)]; exact h.fb
  f4 := by rw [Hp.f_set_ne _ _ _ _ (by omega)]; exact h.f4
  bel := bel_set h.bel (by omega)
  tr := by rw [Hp.trunc_set _ _ _ _ (by omega)]; exact h.tr
theorem DX.setV {v : Nat} {x : AB} (h : DX H c a b rows X) (hv : H.n + 5 ≤ v) (ha : H.n + 2 ≤ a ∧ a < H.n + 4) (hb : H.n + 2 ≤ b ∧ b < H.n + 4) : DX H c a b rows (X.set v x) where
  n := h.n
  f0 := by rw [Hp.f_set_ne _ _ _ _ (by omega)]; exact h.f0
  f1 := by rw [Hp.f_set_ne _ _ _ _ (by omega)]; exact h.f1
  fa := by rw [Hp.f_set_ne _ _ _ _ (by omega)]; exact h.fa
  fb := by rw [Hp.f_set_ne _ _ _ _ (by omega)]; exact h.fb
  f4 := by rw [Hp.f_set_ne _ _ _ _ (by omega)]; exact h.f4
  bel := bel_set h.bel (by omega)
  tr := by rw [Hp.trunc_set _ _ _ _ (by omega)]; exact h.tr
theorem CP_next {G : Globs} (hc : Ok c) {d : Nat} (hd : d + 1 < c.layers.length) {t9 mb : Nat} {mm : List (Int × Unit)} (h9 : X.f t9 = some (.cells [.mp mb])) (hm : X.f mb = some (.mapB (tm iev uv mm))) (hmk : ∀ p ∈ mm, okI p.1)
    (hmm : ∀ x, (assoc x mm).isSome = usedB (gw c d) x) : CP G c X (d + 1) 45 [.ptr t9 0] where
  ent := enters45
  weak := rfl
  call := by
    rintro i hi H' ⟨T, rfl⟩ R h
    have hr := (hc.row (c.layers.length - 1 - (d + 1)) (by omega)).2
    have hw : nth (fw c (d + 1)) i = usedB (gw c d) i := by
      rw [fw, nth_tab hi, want, if_neg (by omega)]; rfl
    rw [hw, ← hmm] at h
    exact optimize_Dead_c2_spec i ⟨by omega, by omega⟩ mm hmk t9 mb _ (by rw [app_f (Hp.lt h9)]; exact h9) (by rw [app_f (Hp.lt hm)]; exact hm) R h
end dx
theorem fst_isSome_succ {p : Nat → Bool} {n : Nat} : (fst? p (n + 1)).isSome = ((fst? p n).isSome || p n) := by
  simp only [fst?]
  cases fst? p n with
  | some j => rfl
  | none => by_cases h : p n = true <;> simp [h]
theorem acells_mp {n : Nat} : acells (.mp n) = some [.mp n] := rfl
theorem acells_vr {n l s : Nat} : acells (.vr n l s) = some [.vr n l s] := rfl
attribute [go_sem] acells_mp acells_vr
theorem acells_circR {i s : Int} {a n : Nat} : acells (mkAgg [.p (i64 i), .ref a 0 n 1, .p (i64 s)]) = some [.p (i64 i), .ref a 0 n 1, .p (i64 s)] := rfl
attribute [go_sem] acells_circR

section walks
variable {G : Globs}

set_option maxHeartbeats 16000000 in
theorem optimize_Dead_spec (c : Circ) (hc : Ok c) (H : Hp) (R : AV → Hp → Prop) (h : R (.p (circ (deadG c))) H) : ACall Try.prog G 17 [.p (circ c)] H R := by
  refine ACall.of_run (raw := []) Try.func17 rfl Try.ntmps17 (by simp) fun hbel => ?_
  have hl := hc.len.2
  have hl1 := hc.len.1
  (repeat refine .z rfl ?_); refine .text ?_; simp (disch := first | exact dsc | fail) only [go_sem, seval]
  (repeat refine .z rfl ?_); refine .cut (fun env' B => env' 1 = .ptr H.n 0 ∧ env' 2 = .ptr (H.n+1) 0 ∧ ∃ a b, env' 3 = .ptr b 0 ∧ DB H c B a b) (fun ih => ?_) ?_
  · (repeat refine .z rfl ?_); refine .openU [0, 1, 2, 3, 4, 5, 6] 7 9 [8, 9, 10] [7, 8, 10] [7, 9, 10] [7, 9, 10] [7, 8, 10] follows (by kernel_rfl) (by kernel_rfl) ?_ ?_ <;> simp (disch := first | exact dsc | fail) only [go_sem, seval]
    · refine ih _ _ ⟨?_, ?_, H.n+2, H.n+3, ?_, ⟨?_, ?_, ?_, ?_, ?_, ⟨by omega, by omega⟩, ⟨by omega, by omega⟩, by omega, ?_, ?_⟩⟩
      rotate_left 8
      · exact bel_new (bel_new (bel_new (bel_new hbel (Nat.le_refl _)) (by simp only [n_new']; omega)) (by simp only [n_new']; omega)) (by simp only [n_new']; omega)
      all_goals simp (disch := first | exact dsc | fail) only [go_sem, seval]
    · refine ih _ _ ⟨?_, ?_, H.n+3, H.n+2, ?_, ⟨?_, ?_, ?_, ?_, ?_, ⟨by omega, by omega⟩, ⟨by omega, by omega⟩, by omega, ?_, ?_⟩⟩
      rotate_left 8
      · exact bel_new (bel_new (bel_new (bel_new hbel (Nat.le_refl _)) (by simp only [n_new']; omega)) (by simp only [n_new']; omega)) (by simp only [n_new']; omega)
      all_goals simp (disch := first | exact dsc | fail) only [go_sem, seval]
  intro env B ⟨e1, e2, a, b, e3, hB⟩
  obtain ⟨hBn, hB0, hB1, hBa, hBb, ⟨ha1, ha2⟩, ⟨hb1, hb2⟩, hab, hBbel, hBtr⟩ := hB
  rw [cc_def] at hB0
  (repeat refine .z rfl ?_); refine .text ?_; simp (disch := first | exact dsc | fail) only [go_sem, seval, e1, hB0]
  (repeat refine .z rfl ?_); refine .text ?_; simp (disch := first | exact dsc | fail) only [go_sem, seval, e1]
  (repeat refine .z rfl ?_); refine .text ?_; simp (disch := first | exact dsc | fail) only [go_sem, seval]
  (repeat refine .z rfl ?_); refine .weakC (a) (by simp (disch := first | exact dsc | fail) only [go_sem, seval, hBa]; rfl) ?_; (try simp (disch := first | exact dsc | fail) only [go_sem, seval, List.map_replicate, List.map_cons, List.map_nil, AV.weak, PV.weak, hBa])
  repeat refine .z rfl ?_
  refine .count (fun d env X => env 1 = .ptr H.n 0 ∧ env 2 = .ptr (H.n+1) 0 ∧ env 3 = .ptr b 0 ∧ env 4 = .ptr (H.n+4) 0 ∧ env 6 = .p (i64 ((c.layers.length : Int) - 1 - d)) ∧
    ∃ f caps rows, env 5 = .clo f [] caps ∧ DX H c a b rows X ∧ (d < c.layers.length → CP G c X d f caps) ∧
      ((d = 0 ∧ rows = cl (sle 6 gate) (pd c 0)) ∨ (0 < d ∧ ∃ v, X.f v = some (.vec (gcs (gw c (d - 1)))) ∧ H.n + 5 ≤ v ∧ rows = (cl (sle 6 gate) (pd c d)).set (c.layers.length - d) (.vr v (gw c (d - 1)).length 6)))) 0 c.layers.length (by omega) ?_ ?_ ?_
  · simp (disch := first | exact dsc | fail) only [go_sem, seval, e1, e2, e3, hBn, wk_rep (e := gate)]
    refine ⟨by simp, _, _, _, rfl, ⟨?_, ?_, ?_, ?_, ?_, ?_, ?_, ?_⟩, fun _ => ⟨enters40, rfl, ?_⟩, by rw [pd_zero]⟩
    rotate_left 6
    · exact bel_new (bel_set hBbel (by omega)) (by simp only [n_set']; omega)
    · simp (disch := first | exact dsc | fail) only [go_sem, seval, hBtr]
    · rintro i hi H' ⟨T, rfl⟩ R h
      have hi : i < (nth c.layers (c.layers.length - 1)).length := hi
      have hw : nth (fw c 0) i = want c (c.layers.length - 1) [] i := by rw [fw, nth_tab (show i < (nth c.layers (c.layers.length - 1 - 0)).length from hi)]; rfl
      rw [hw] at h
      exact optimize_Dead_c1_spec c hc i hi H.n (H.n + 4) _ (by simp (disch := first | exact dsc | fail) only [go_sem, seval]; exact hB0) (by simp (disch := first | exact dsc | fail) only [go_sem, seval]) R h
    · simp only [n_new', n_set']; omega
    all_goals simp (disch := first | exact dsc | fail) only [go_sem, seval, hB0, hB1, hBb]
  · intro env X ⟨e1, e2, e3, e4, e6, f, caps, rows, e5, hX, _, hrows⟩
    rcases hrows with ⟨h0, _⟩ | ⟨h0, v, hXv, hv5, hrows⟩
    · omega
    have hpl : (pd c c.layers.length).length = c.layers.length := pd_len
    have hvl2 : v < X.n := Hp.lt hXv
    have hXa := hX.fa
    have hXb := hX.fb
    have hX1 := hX.f1
    have hXn := hX.n
    rw [Nat.sub_self] at hrows
    subst hrows
    have hget : ((cl (sle 6 gate) (pd c c.layers.length)).set 0 (.vr v (gw c (c.layers.length - 1)).length 6))[0]? = some (.vr v (gw c (c.layers.length - 1)).length 6) := List.getElem?_set_self (by rw [cl_len]; omega)
    have hgl1 := gw_len hc (show c.layers.length - 1 < c.layers.length by omega)
    have hgf : (gw c (c.layers.length - 1)).map zeroU = gf c 0 := by rw [gf, if_pos rfl, Nat.sub_zero]
    have hall : (pd c c.layers.length).set 0 (gf c 0) = tab (gf c) c.layers.length := by
      have := pd_succ (c := c) (d := c.layers.length) (by omega) (by omega)
      rw [Nat.sub_self] at this
      rw [this, pd_all]
    have hal : (tab (gf c) c.layers.length).length = c.layers.length := tab_len
    have htk : (tab (gf c) c.layers.length).take c.layers.length = tab (gf c) c.layers.length := List.take_of_length_le (by rw [hal]; exact Nat.le_refl _)
    (repeat refine .z rfl ?_); refine .text ?_; simp (disch := first | exact dsc | fail) only [go_sem, seval, e6]
    (repeat refine .z rfl ?_); refine .ifF (by simp (disch := first | exact dsc | fail) only [go_sem, seval]) ?_
    (repeat refine .z rfl ?_); refine .text ?_; simp (disch := first | exact dsc | fail) only [go_sem, seval, e3, hXa, hXb, List.length_set, hget]
    refine CallK.of (fun R h => optimize_renumber_nil_spec (gw c (c.layers.length - 1)) hgl1.2 v _ hXv R h) ?_; simp (disch := first | exact dsc | fail) only [go_sem, seval, hgf]
    repeat refine .z rfl ?_
    refine .frzCell a 0 v (y := .p (.sl false 6 (pl gate (gf c 0)))) (by simp (disch := first | exact dsc | fail) only [go_sem, seval]; exact hXa) hget (by omega) (fun σ w val hr hs => vr_plain hr (xs := pl gate (gf c 0)) (cs := gcs (gf c 0)) (by simp (disch := first | exact dsc | fail) only [go_sem, seval] <;> rfl) rfl (by rw [pl_len, ← hgf, List.length_map]) gate_len hs) ?_
    have hset : ((cl (sle 6 gate) (pd c c.layers.length)).set 0 (.vr v (gw c (c.layers.length - 1)).length 6)).set 0 (.p (.sl false 6 (pl gate (gf c 0)))) = cl (sle 6 gate) (tab (gf c) c.layers.length) := by
      rw [List.set_set, cl_sle_set, hall]
    rw [hset]
    refine .frzCell b 1 a (x := .ref a 0 c.layers.length 1) (y := .p (.sl false 1 (pl (sle 6 gate) (tab (gf c) c.layers.length)))) (by simp (disch := first | exact dsc | fail) only [go_sem, seval]; exact hXb) rfl (Ne.symm hab) (fun σ w val hr hs => by
      have := ref_plain hr (f := sle 6 gate) (l := tab (gf c) c.layers.length) (by simp (disch := first | exact dsc | fail) only [go_sem, seval] <;> rfl) (fun _ => rfl) (by rw [hal]; omega) hs
      rw [List.drop_zero, htk] at this
      exact this) ?_
    have hbel := hX.bel
    have hXtr := hX.tr
    (repeat refine .z rfl ?_); refine .text ?_; simp (disch := first | exact dsc | fail) only [go_sem, seval, e2, e3, hX1]
    (repeat refine .z rfl ?_); refine .rt Try.func17 (by rw [Try.results17]) (hx := by simp (disch := first | exact dsc | fail) only [go_sem, seval, e2, hXtr]; rfl) (hR := ?_); simp (disch := first | exact dsc | fail) only [go_sem, seval, e2, hXtr]
    exact h
  · intro d env X _ hd ⟨e1, e2, e3, e4, e6, f, caps, rows, e5, hX, hcp, hrows⟩ ih
    have hcp := hcp hd
    obtain ⟨k, hk⟩ : ∃ k : Nat, c.layers.length - 1 - d = k := ⟨_, rfl⟩
    have hk' : ((c.layers.length : Int) - 1 - d) = (k : Int) := by omega
    have hkl : k < c.layers.length := by omega
    rw [hk'] at e6
    have hr := hc.row k hkl
    have hfl := fw_len (c := c) (d := d)
    have hX0 := hX.f0
    rw [hk] at hfl
    (repeat refine .z rfl ?_); refine .text ?_; simp (disch := first | exact dsc | fail) only [go_sem, seval, e6]
    (repeat refine .z rfl ?_); refine .ifT (by simp (disch := first | exact dsc | fail) only [go_sem, seval]) ?_
    (repeat refine .z rfl ?_); refine .text ?_; simp (disch := first | exact dsc | fail) only [go_sem, seval, e1, e5, e6, hX0]
    have hca := hcp.call
    rw [hk] at hca
    refine CallK.ex (S := fun r H' => ∃ T S, r = .tup [.vr (X.n + T.length) (keepO (fw c d) (nth c.layers k)).length 6, .p (.sl false 1 (pl i64 (keepN (fw c d) (nth c.layers k))))] ∧ H' = app ((app X T).new (.vec (gcs (keepO (fw c d) (nth c.layers k))))) S) (optimize_keep_spec (nth c.layers k) hr.2 hr.1 (fw c d) hfl f caps hcp.ent hcp.weak X hca _ fun T S => ⟨T, S, rfl, rfl⟩) ?_
    rintro _ _ ⟨T, S, rfl, rfl⟩
    simp (disch := first | exact dsc | fail) only [go_sem, seval]
    have hgw : keepO (fw c d) (nth c.layers k) = gw c d := by rw [gw_eq, hk]
    rw [hgw]
    have hHX : H.n ≤ X.n := by have := hX.n; omega
    have hE : Ext H X (app ((app X T).new (.vec (gcs (gw c d)))) S) := (Ext.app hHX).trans ((Ext.new (by rw [app_n']; omega)).trans (Ext.app (by rw [n_new', app_n']; omega)))
    have hv : (app ((app X T).new (.vec (gcs (gw c d)))) S).f (X.n + T.length) = some (.vec (gcs (gw c d))) := by simp (disch := first | exact dsc | fail) only [go_sem, seval]
    have hvn : X.n ≤ X.n + T.length := by omega
    have hvl : X.n + T.length < (app ((app X T).new (.vec (gcs (gw c d)))) S).n := Hp.lt hv
    have hgl := gw_len hc hd
    have hgo := gw_op hc hd
    rw [hk] at hgo
    have hwl := hc.wid_le hkl
    generalize hv' : X.n + T.length = v' at *
    generalize app ((app X T).new (.vec (gcs (gw c d)))) S = Y at *
    (repeat refine .z rfl ?_); refine .text ?_; simp (disch := first | exact dsc | fail) only [go_sem, seval]
    (repeat refine .z rfl ?_); refine .text ?_; simp (disch := first | exact dsc | fail) only [go_sem, seval]
    repeat refine .z rfl ?_
    have hY0 := (hE.f _ (Hp.lt hX.f0)).trans hX.f0
    refine .count (fun i env H2 => env 1 = .ptr H.n 0 ∧ env 2 = .ptr (H.n+1) 0 ∧ env 3 = .ptr b 0 ∧ env 4 = .ptr (H.n+4) 0 ∧ env 6 = .p (i64 k) ∧ env 7 = .vr v' (gw c d).length 6 ∧ env 8 = .p (.sl false 1 (pl i64 (keepN (fw c d) (nth c.layers k)))) ∧ env 9 = .ptr (Y.n+1) 0 ∧ env 42 = .vr v' (gw c d).length 6 ∧ env 43 = .p (i64 (gw c d).length) ∧ env 44 = .p (i64 i) ∧ ∃ mm S, (∀ p ∈ mm, okI p.1) ∧ (∀ x, (assoc x mm).isSome = (fst? (fun k => usesAt (nth (gw c d) k) x) i).isSome) ∧ H2 = app ((Y.new (.mapB (tm iev uv mm))).new (.cells [.mp Y.n])) S) 0 (gw c d).length (by omega) ?_ ?_ ?_
    · simp (disch := first | exact dsc | fail) only [go_sem, seval, e1, e2, e3, e4, e6]
      exact ⟨[], [], fun p hp => (by cases hp), fun x => rfl, rfl⟩
    · intro env H2 ⟨e1, e2, e3, e4, e6, e7, e8, e9, e42, e43, e44, mm, S, hmk, hmm, eH⟩
      subst eH
      (repeat refine .z rfl ?_); refine .text ?_; simp (disch := first | exact dsc | fail) only [go_sem, seval, e43, e44]
      (repeat refine .z rfl ?_); refine .ifF (by simp (disch := first | exact dsc | fail) only [go_sem, seval]) ?_
      have hYa := (hE.f _ (Hp.lt hX.fa)).trans hX.fa
      have hYb := (hE.f _ (Hp.lt hX.fb)).trans hX.fb
      have hY1 := (hE.f _ (Hp.lt hX.f1)).trans hX.f1
      have hY4 := (hE.f _ (Hp.lt hX.f4)).trans hX.f4
      have hYn : X.n ≤ Y.n := hE.n
      have hXn := hX.n
      have hpl : (pd c d).length = c.layers.length := pd_len
      (repeat refine .z rfl ?_); refine .text ?_; simp (disch := first | exact dsc | fail) only [go_sem, seval, e9]
      have hXY := hX.ext hE
      have hus : ∀ x, (assoc x mm).isSome = usedB (gw c d) x := hmm
      rcases hrows with ⟨h0, hrows⟩ | ⟨h0, v, hXv, hv5, hrows⟩
      · subst hrows
        subst h0
        (repeat refine .z rfl ?_); refine .text ?_; simp (disch := first | exact dsc | fail) only [go_sem, seval, e3, e6, e7, hYa, hYb]
        (repeat refine .z rfl ?_); refine .text ?_; simp (disch := first | exact dsc | fail) only [go_sem, seval, e4, e6, hY4]
        (repeat refine .z rfl ?_); refine .ifF (by simp (disch := first | exact dsc | fail) only [go_sem, seval]) ?_
        (repeat refine .z rfl ?_); refine .text ?_; simp (disch := first | exact dsc | fail) only [go_sem, seval, e6]
        have hdx := (((hXY.setA (rows' := (cl (sle 6 gate) (pd c 0)).set k (.vr v' (gw c 0).length 6)) ⟨ha1, ha2⟩ hab).new (x := .mapB (tm iev uv mm))).new (x := .cells [.mp Y.n])).app (T := S)
        refine ih _ _ ?_
        simp (disch := first | exact dsc | fail) only [go_sem, seval, e1, e2, e3, e4]
        refine ⟨by congr 2; omega, _, _, _, rfl, hdx, fun h1 => CP_next (t9 := Y.n + 1) (mb := Y.n) hc h1 (by simp (disch := first | exact dsc | fail) only [go_sem, seval]) (by simp (disch := first | exact dsc | fail) only [go_sem, seval]) hmk hus, v', ?_, by omega, ?_⟩
        · simp (disch := first | exact dsc | fail) only [go_sem, seval, hv]
        · rw [pd_one, show c.layers.length - (0 + 1) = k by omega]
      · have hYv := (hE.f _ (Hp.lt hXv)).trans hXv
        have hvl2 : v < X.n := Hp.lt hXv
        have hnd : c.layers.length - d = k + 1 := by omega
        rw [hnd] at hrows
        subst hrows
        (repeat refine .z rfl ?_); refine .text ?_; simp (disch := first | exact dsc | fail) only [go_sem, seval, e3, e6, e7, hYa, hYb, List.length_set]
        (repeat refine .z rfl ?_); refine .text ?_; simp (disch := first | exact dsc | fail) only [go_sem, seval, e4, e6, hY4]
        (repeat refine .z rfl ?_); refine .ifT (by simp (disch := first | exact dsc | fail) only [go_sem, seval]) ?_
        have hget : (((cl (sle 6 gate) (pd c d)).set (k + 1) (.vr v (gw c (d - 1)).length 6)).set k (.vr v' (gw c d).length 6))[k + 1]? = some (.vr v (gw c (d - 1)).length 6) := by
          rw [List.getElem?_set_ne (by omega), List.getElem?_set_self (by rw [cl_len]; omega)]
        have hgl1 := gw_len hc (show d - 1 < c.layers.length by omega)
        have hgo1 := gw_op hc (show d - 1 < c.layers.length by omega)
        have hkd : c.layers.length - 1 - (d - 1) = k + 1 := by omega
        rw [hkd] at hgo1
        have hkN : (keepN (fw c d) (nth c.layers k)).length = (nth c.layers k).length := tab_len
        have hwk : wid c (k + 1) = ((nth c.layers k).length : Int) := rfl
        rw [hwk, ← hkN] at hgo1
        have hgf : (gw c (d - 1)).map (fun g => zeroU (reN (keepN (fw c d) (nth c.layers k)) g)) = gf c (k + 1) := by
          rw [gf, if_neg (by omega), show c.layers.length - 1 - (k + 1) = d - 1 by omega, gnum, Nat.add_sub_cancel, show c.layers.length - 1 - k = d by omega]
        (repeat refine .z rfl ?_); refine .text ?_; simp (disch := first | exact dsc | fail) only [go_sem, seval, e3, e6, e8, hYa, hYb, List.length_set, hget]
        refine CallK.of (fun R h => optimize_renumber_spec (gw c (d - 1)) hgl1.2 (keepN (fw c d) (nth c.layers k)) (by omega) hgo1 v _ (by simp (disch := first | exact dsc | fail) only [go_sem, seval]; exact hYv) R h) ?_; simp (disch := first | exact dsc | fail) only [go_sem, seval, hgf]
        repeat refine .z rfl ?_
        refine .frzCell a (k + 1) v (y := .p (.sl false 6 (pl gate (gf c (k + 1))))) (by simp (disch := first | exact dsc | fail) only [go_sem, seval] <;> rfl) hget (by omega) (fun σ w val hr hs => vr_plain hr (xs := pl gate (gf c (k + 1))) (cs := gcs (gf c (k + 1))) (by simp (disch := first | exact dsc | fail) only [go_sem, seval] <;> rfl) rfl (by rw [pl_len, ← hgf, List.length_map]) gate_len hs) ?_
        (repeat refine .z rfl ?_); refine .text ?_; simp (disch := first | exact dsc | fail) only [go_sem, seval, e6]
        have hrows2 : (((cl (sle 6 gate) (pd c d)).set (k + 1) (.vr v (gw c (d - 1)).length 6)).set k (.vr v' (gw c d).length 6)).set (k + 1) (.p (.sl false 6 (pl gate (gf c (k + 1))))) = (cl (sle 6 gate) (pd c (d + 1))).set (c.layers.length - (d + 1)) (.vr v' (gw c d).length 6) := by
          rw [List.set_comm _ _ (by omega), List.set_set, cl_sle_set, ← pd_succ h0 (by omega), hnd, show c.layers.length - (d + 1) = k by omega]
        refine ih _ _ ?_
        simp (disch := first | exact dsc | fail) only [go_sem, seval, e1, e2, e3, e4]
        refine ⟨by congr 2; omega, _, _, _, rfl, ?_, fun h1 => CP_next (t9 := Y.n + 1) (mb := Y.n) hc h1 (by simp (disch := first | exact dsc | fail) only [go_sem, seval]) (by simp (disch := first | exact dsc | fail) only [go_sem, seval]) hmk hus, v', ?_, by omega, hrows2⟩
        · exact DX.app (DX.new (DX.new (DX.setA (DX.setV (DX.setA hXY ⟨ha1, ha2⟩ hab) hv5 ⟨ha1, ha2⟩ ⟨hb1, hb2⟩) ⟨ha1, ha2⟩ hab)))
        · simp (disch := first | exact dsc | fail) only [go_sem, seval, hv]
          try rfl
    · intro i env H2 _ hi ⟨e1, e2, e3, e4, e6, e7, e8, e9, e42, e43, e44, mm, S, hmk, hmm, eH⟩ ih
      subst eH
      obtain ⟨o1, o2, o3, o4⟩ := hgo i hi
      have hst : ∀ x, (fst? (fun k => usesAt (nth (gw c d) k) x) (i + 1)).isSome = ((fst? (fun k => usesAt (nth (gw c d) k) x) i).isSome || usesAt (nth (gw c d) i) x) := fun x => fst_isSome_succ
      have hsub := gcs_sub hi
      generalize nth (gw c d) i = g at *
      (repeat refine .z rfl ?_); refine .text ?_; simp (disch := first | exact dsc | fail) only [go_sem, seval, e43, e44]
      (repeat refine .z rfl ?_); refine .ifT (by simp (disch := first | exact dsc | fail) only [go_sem, seval]) ?_
      (repeat refine .z rfl ?_); refine .text ?_; simp (disch := first | exact dsc | fail) only [go_sem, seval, e42, e44, hv, hsub]
      (repeat refine .z rfl ?_); refine .text ?_; simp (disch := first | exact dsc | fail) only [go_sem, seval]
      refine CallK.of (fun R h => optimize_usesLeft_spec _ _ R h) ?_; simp (disch := first | exact dsc | fail) only [go_sem, seval]
      have okl : okI g.l := ⟨by omega, by omega⟩
      have okr : okI g.r := ⟨by omega, by omega⟩
      have hputs : ∀ H b (m : List (Int × Unit)) (n : Int), (∀ p ∈ m, okI p.1) → okI n → aPutM Try.prog H 65 b (some (tm iev uv m)) (.p (i64 n)) (.p (.agg [])) = some (H.set b (.mapB (tm iev uv (putA n () m)))) := fun H b m n hm hn => intMap.put (x := ()) hm hn
      (repeat refine .z rfl ?_); refine .cut (fun env' H2 => env' 1 = .ptr H.n 0 ∧ env' 2 = .ptr (H.n+1) 0 ∧ env' 3 = .ptr b 0 ∧ env' 4 = .ptr (H.n+4) 0 ∧ env' 6 = .p (i64 k) ∧ env' 7 = .vr v' (gw c d).length 6 ∧ env' 8 = .p (.sl false 1 (pl i64 (keepN (fw c d) (nth c.layers k)))) ∧ env' 9 = .ptr (Y.n+1) 0 ∧ env' 42 = .vr v' (gw c d).length 6 ∧ env' 43 = .p (i64 (gw c d).length) ∧ env' 44 = .p (i64 i) ∧ env' 11 = .ptr (Y.n+2+S.length) 0 ∧ H2 = (app ((Y.new (.mapB (tm iev uv (if usesL g then putA g.l () mm else mm)))).new (.cells [.mp Y.n])) S).new (.cells (gc g))) (fun ih => ?_) ?_
      · (repeat refine .z rfl ?_); refine .ifB (by simp (disch := first | exact dsc | fail) only [go_sem, seval, e1, e2, e3, e4, e6, e7, e8, e9, e42, e43, e44]; rfl) (fun hc1 => ?_) (fun hc1 => ?_)
        · rw [if_pos hc1] at ih
          have hp := fun H b => hputs H b mm g.l hmk okl
          (repeat refine .z rfl ?_); refine .text ?_; simp (disch := first | exact dsc | fail) only [go_sem, seval, e1, e2, e3, e4, e6, e7, e8, e9, e42, e43, e44, hp]
          refine ih _ _ ?_
          simp (disch := first | exact dsc | fail) only [go_sem, seval, e1, e2, e3, e4, e6, e7, e8, e9, e42, e43, e44]
        · rw [if_neg (by simp [hc1])] at ih
          refine .skip ?_
          refine ih _ _ ?_
          simp (disch := first | exact dsc | fail) only [go_sem, seval, e1, e2, e3, e4, e6, e7, e8, e9, e42, e43, e44]
      clear e1 e2 e3 e4 e6 e7 e8 e9 e42 e43 e44
      intro env' H2 ⟨e1, e2, e3, e4, e6, e7, e8, e9, e42, e43, e44, e11, eHH⟩
      subst eHH
      have hmk1 : ∀ p ∈ (if usesL g then putA g.l () mm else mm), okI p.1 := by
        split
        · exact putA_keys mm okl hmk
        · exact hmk
      have hmm1 : ∀ x, (assoc x (if usesL g then putA g.l () mm else mm)).isSome = ((assoc x mm).isSome || (usesL g && g.l == x)) := fun x => by
        cases usesL g with
        | true =>
          simp only [if_true, assoc_putA, Bool.true_and]
          by_cases e : g.l = x
          · simp [e]
          · simp [e]
        | false => simp
      generalize (if usesL g then putA g.l () mm else mm) = m1 at *
      (repeat refine .z rfl ?_); refine .text ?_; simp (disch := first | exact dsc | fail) only [go_sem, seval, e11]
      refine CallK.of (fun R h => optimize_usesRight_spec _ _ R h) ?_; simp (disch := first | exact dsc | fail) only [go_sem, seval]
      (repeat refine .z rfl ?_); refine .ifB (by simp (disch := first | exact dsc | fail) only [go_sem, seval, e1, e2, e3, e4, e6, e7, e8, e9, e42, e43, e44]; rfl) (fun hc1 => ?_) (fun hc1 => ?_)
      · have hp := fun H b => hputs H b m1 g.r hmk1 okr
        (repeat refine .z rfl ?_); refine .text ?_; simp (disch := first | exact dsc | fail) only [go_sem, seval, e1, e2, e3, e4, e6, e7, e8, e9, e42, e43, e44, e11, hp]
        (repeat refine .z rfl ?_); refine .text ?_; simp (disch := first | exact dsc | fail) only [go_sem, seval, e1, e2, e3, e4, e6, e7, e8, e9, e42, e43, e44]
        refine ih _ _ ?_
        simp (disch := first | exact dsc | fail) only [go_sem, seval, e1, e2, e3, e4, e6, e7, e8, e9, e42, e43, e44]
        refine ⟨putA g.r () m1, S ++ [.cells (gc g)], putA_keys m1 okr hmk1, fun x => ?_, app_new⟩
        rw [hst, ← hmm, assoc_putA, usesAt, ← Bool.or_assoc, ← hmm1, hc1, Bool.true_and]
        by_cases e : g.r = x
        · simp [e]
        · simp [e]
      · refine .skip ?_
        (repeat refine .z rfl ?_); refine .text ?_; simp (disch := first | exact dsc | fail) only [go_sem, seval, e1, e2, e3, e4, e6, e7, e8, e9, e42, e43, e44]
        refine ih _ _ ?_
        simp (disch := first | exact dsc | fail) only [go_sem, seval, e1, e2, e3, e4, e6, e7, e8, e9, e42, e43, e44]
        refine ⟨m1, S ++ [.cells (gc g)], hmk1, fun x => ?_, app_new⟩
        rw [hst, ← hmm, usesAt, ← Bool.or_assoc, ← hmm1, hc1, Bool.false_and, Bool.or_false]
end walks
end Go.Proofs.Ytjnbifkojpfdgaa

/-
  Removing unused gates: the program and the reference keep the same.
-/
namespace Go.Proofs.Ytjnbifkojpfdgaa
open Go Go.AL

theorem sel_len (b : List Bool) (l : List Gate) : ∀ i, (selTo b l i).length = cntB b i
  | 0 => rfl
  | i + 1 => by
    have := sel_len b l i
    simp only [selTo, cntB]
    split
    · simp [this]
    · exact this
theorem sel_congr {a b : List Bool} {l : List Gate} : ∀ {i : Nat}, (∀ j, j < i → nth a j = nth b j) → selTo a l i = selTo b l i
  | 0, _ => rfl
  | i + 1, h => by simp only [selTo]; rw [h i (by omega), sel_congr fun j hj => h j (by omega)]
theorem cnt_congr {a b : List Bool} : ∀ {i : Nat}, (∀ j, j < i → nth a j = nth b j) → cntB a i = cntB b i
  | 0, _ => rfl
  | i + 1, h => by simp only [cntB]; rw [h i (by omega), cnt_congr fun j hj => h j (by omega)]
theorem cnt_zero {b : List Bool} : ∀ {i : Nat}, cntB b i = 0 ↔ ∀ j, j < i → nth b j = false
  | 0 => ⟨fun _ j hj => absurd hj (by omega), fun _ => rfl⟩
  | i + 1 => by
    simp only [cntB]
    by_cases hb : nth b i = true
    · simp only [hb, if_true]
      exact ⟨fun h => absurd h (by omega), fun h => by rw [h i (by omega)] at hb; cases hb⟩
    · rw [if_neg hb, cnt_zero]
      constructor
      · intro h j hj
        by_cases e : j = i
        · subst e; simpa using hb
        · exact h j (by omega)
      · exact fun h j hj => h j (by omega)
theorem anyW_false {c : Circ} {k : Nat} {next : List Gate} {i : Nat} : anyW c k next i = false ↔ ∀ j, j < i → want c k next j = false := by
  unfold anyW
  rw [← fst_none]
  cases fst? (want c k next) i <;> simp
theorem sel_first {b : List Bool} {l : List Gate} (h0 : nth b 0 = true) : ∀ i, (∀ j, 0 < j → j < i + 1 → nth b j = false) → selTo b l (i + 1) = [nth l 0]
  | 0, _ => by simp [selTo, h0]
  | i + 1, h => by
    have ih := sel_first (l := l) h0 i (fun j h1 h2 => h j h1 (by omega))
    rw [selTo, if_neg (by rw [h (i + 1) (by omega) (by omega)]; simp), ih]

/-- What is kept of a layer. -/
theorem kept_eq {c : Circ} {k : Nat} {next : List Gate} (hl : 1 ≤ (nth c.layers k).length) :
    selTo (needB c k next) (nth c.layers k) (nth c.layers k).length = keepO (tab (want c k next) (nth c.layers k).length) (nth c.layers k) := by
  unfold needB keepO
  generalize hn : (nth c.layers k).length = n at *
  rw [sel_len]
  by_cases h : anyW c k next n = true
  · rw [if_pos h]
    have : ¬ cntB (tab (want c k next) n) n = 0 := fun h0 => by
      have := cnt_zero.1 h0
      have h1 : anyW c k next n = false := anyW_false.2 fun j hj => by have := this j hj; rwa [nth_tab hj] at this
      rw [h] at h1; cases h1
    rw [if_neg this]
  · rw [if_neg h]
    have hf := anyW_false.1 (by simpa using h)
    have : cntB (tab (want c k next) n) n = 0 := cnt_zero.2 fun j hj => by rw [nth_tab hj]; exact hf j hj
    rw [if_pos this]
    obtain ⟨m, rfl⟩ : ∃ m, n = m + 1 := ⟨n - 1, by omega⟩
    refine sel_first (nth_set_eq rfl (by rw [tab_len]; omega)) m fun j h1 h2 => ?_
    rw [nth_set_ne (by omega), nth_tab h2]
    exact hf j h2

theorem dk_gw {c : Circ} (hc : Ok c) : ∀ d, d < c.layers.length → (dk c d).2 = gw c d
  | 0, hd => by
    rw [dk_eq hd, gw_eq, fw]
    exact kept_eq (hc.row _ (by omega)).1
  | d + 1, hd => by
    have ih := dk_gw hc d (by omega)
    have hN : dkN c (d + 1) = gwN c (d + 1) := by rw [dkN, gwN, if_neg (by omega), if_neg (by omega)]; exact ih
    rw [dk_eq hd, gw_eq, fw, hN]
    exact kept_eq (hc.row _ (by omega)).1
theorem dkN_gwN {c : Circ} (hc : Ok c) {d : Nat} (hd : d < c.layers.length) : dkN c d = gwN c d := by
  unfold dkN gwN
  split
  · rfl
  · exact dk_gw hc _ (by omega)

theorem dlTo_sel (c : Circ) (k : Nat) : ∀ i, dlTo c k i = (selTo (kb c k) (nth c.layers k) i).map (dg c k)
  | 0 => rfl
  | i + 1 => by
    have := dlTo_sel c k i
    simp only [dlTo, selTo]
    split
    · simp [this]
    · exact this

theorem zeroU_free {g h : Gate} (hl : usesL g = false) (hr : usesR g = false) (hc : g.c = h.c) (ha : g.a = h.a) (hb : g.b = h.b) (hd : g.d = h.d) : zeroU g = zeroU h := by
  have hl' : usesL h = false := by unfold usesL at hl ⊢; rw [← hc, ← ha]; exact hl
  have hr' : usesR h = false := by unfold usesR at hr ⊢; rw [← hc, ← hb]; exact hr
  have e : ∀ g : Gate, usesL g = false → usesR g = false → zeroU g = ⟨0, 0, g.c, g.a, g.b, g.d⟩ := fun g h1 h2 => by
    have h3 : n3 g = ⟨0, g.r, g.c, g.a, g.b, g.d⟩ := by simp [n3, h1]
    have h4 : usesR (⟨0, g.r, g.c, g.a, g.b, g.d⟩ : Gate) = false := h2
    rw [zeroU, h3, m4, h4]
    rfl
  rw [e g hl hr, e h hl' hr', hc, ha, hb, hd]

theorem not_used {l : List Gate} {g : Gate} {i : Nat} {x : Int} (hi : i < l.length) (hg : nth l i = g) (h : usedB l x = false) : usesAt g x = false := by
  unfold usedB at h
  have : fst? (fun k => usesAt (nth l k) x) l.length = none := by
    cases hf : fst? (fun k => usesAt (nth l k) x) l.length with
    | none => rfl
    | some j => rw [hf] at h; cases h
  have := fst_none.1 this i hi
  rw [hg] at this
  exact this

/-- The program's and the reference's circuits without unused gates are the same. -/
theorem dead_eq {c : Circ} (hc : Ok c) : deadG c = deadR c := by
  unfold deadG deadR
  congr 1
  refine tab_congr fun k hk => ?_
  obtain ⟨d, hd⟩ : ∃ d, c.layers.length - 1 - k = d := ⟨_, rfl⟩
  have hdn : d < c.layers.length := by omega
  have hkd : c.layers.length - 1 - d = k := by omega
  have hkb : kb c k = needB c k (gwN c d) := by
    have := kb_eq (c := c) hdn
    rw [hkd, dkN_gwN hc hdn] at this
    exact this
  have hsel : selTo (kb c k) (nth c.layers k) (nth c.layers k).length = gw c d := by
    rw [hkb, kept_eq (hc.row k hk).1, gw_eq, fw, hkd]
  rw [dlTo_sel, hsel, gf, hd]
  refine nth_ext (by simp) fun i hi => ?_
  rw [List.length_map] at hi
  rw [nth_map hi, nth_map hi]
  obtain ⟨g, hg⟩ : ∃ g, nth (gw c d) i = g := ⟨_, rfl⟩
  rw [hg]
  by_cases h0 : k = 0
  · subst h0; rfl
  · rw [if_neg h0]
    unfold dg reN
    rw [if_neg h0]
    have ho := gw_op hc hdn i hi
    rw [hkd, wid, if_neg h0, hg] at ho
    obtain ⟨o1, o2, o3, o4⟩ := ho
    -- the layer before
    have hd1 : d + 1 < c.layers.length := by omega
    have hk1 : c.layers.length - 1 - (d + 1) = k - 1 := by omega
    have hkb1 : kb c (k - 1) = needB c (k - 1) (gw c d) := by
      have := kb_eq (c := c) hd1
      rw [hk1, dkN_gwN hc hd1, gwN, if_neg (by omega), Nat.add_sub_cancel] at this
      exact this
    have hfw : fw c (d + 1) = tab (want c (k - 1) (gw c d)) (nth c.layers (k - 1)).length := by
      rw [fw, hk1, gwN, if_neg (by omega), Nat.add_sub_cancel]
    have hgn : ∀ j, j < (nth c.layers (k - 1)).length → nth (gnum c (k - 1)) j = ((cntB (fw c (d + 1)) j : Nat) : Int) := fun j hj => by
      rw [gnum, show c.layers.length - 1 - (k - 1) = d + 1 by omega, keepN, nth_tab hj, sel_len]
    rw [hgn _ (by omega), hgn _ (by omega), hkb1, hfw]
    by_cases h : anyW c (k - 1) (gw c d) (nth c.layers (k - 1)).length = true
    · rw [needB, if_pos h]
    · have hf := anyW_false.1 (by simpa using h)
      have hnu : ∀ j, j < (nth c.layers (k - 1)).length → usesAt g j = false := fun j hj => by
        have := hf j hj
        rw [want, if_neg (by omega)] at this
        exact not_used hi hg this
      have hl : usesL g = false := by
        have := hnu g.l.toNat (by omega)
        rw [Int.toNat_of_nonneg o1, usesAt] at this
        cases hu : usesL g with
        | false => rfl
        | true => simp [hu] at this
      have hr : usesR g = false := by
        have := hnu g.r.toNat (by omega)
        rw [Int.toNat_of_nonneg o3, usesAt] at this
        cases hu : usesR g with
        | false => rfl
        | true => simp [hu] at this
      exact zeroU_free hl hr rfl rfl rfl rfl
end Go.Proofs.Ytjnbifkojpfdgaa

/-
  Removing unused gates keeps the shape; all steps of the reference.
-/
namespace Go.Proofs.Ytjnbifkojpfdgaa
open Go Go.AL

theorem sel_mono {b : List Bool} {l : List Gate} {i : Nat} : ∀ {j : Nat}, i ≤ j → (selTo b l i).length ≤ (selTo b l j).length
  | 0, h => by
    have : i = 0 := by omega
    subst this; exact Nat.le_refl _
  | j + 1, h => by
    by_cases e : i = j + 1
    · subst e; exact Nat.le_refl _
    · have := sel_mono (b := b) (l := l) (i := i) (j := j) (by omega)
      simp only [selTo]
      split
      · simp; omega
      · exact this

theorem zeroU_op {n : Int} {x : Gate} (hn : 0 < n) (hl : usesL x = true → 0 ≤ x.l ∧ x.l < n) (hr : usesR x = true → 0 ≤ x.r ∧ x.r < n) : opG n (zeroU x) := by
  have h3 : (0 ≤ (n3 x).l ∧ (n3 x).l < n) ∧ (n3 x).r = x.r ∧ usesR (n3 x) = usesR x := by
    unfold n3
    cases h : usesL x with
    | true => exact ⟨hl h, rfl, rfl⟩
    | false => exact ⟨⟨Int.le_refl _, hn⟩, rfl, rfl⟩
  unfold zeroU m4
  rw [h3.2.2]
  cases h : usesR x with
  | true =>
    have := hr h
    exact ⟨h3.1.1, h3.1.2, by rw [show (if (!true) = true then _ else n3 x) = n3 x from rfl, h3.2.1]; exact this.1, by rw [show (if (!true) = true then _ else n3 x) = n3 x from rfl, h3.2.1]; exact this.2⟩
  | false => exact ⟨h3.1.1, h3.1.2, Int.le_refl _, hn⟩

theorem used_of {l : List Gate} {g : Gate} {i : Nat} {x : Int} (hi : i < l.length) (hg : nth l i = g) (h : usesAt g x = true) : usedB l x = true := by
  cases hu : usedB l x with
  | true => rfl
  | false => rw [not_used hi hg hu] at h; cases h

theorem Ok.dead {c : Circ} (hc : Ok c) : Ok (deadG c) where
  inp := hc.inp
  sums := hc.sums
  len := by show 1 ≤ (tab _ _).length ∧ (tab _ _).length ≤ _; rw [tab_len]; exact hc.len
  row k hk := by
    simp only [deadG, tab_len] at hk ⊢
    rw [nth_tab hk, gf, List.length_map]
    exact gw_len hc (by omega)
  op k hk i hi := by
    simp only [deadG, tab_len] at hk hi ⊢
    rw [nth_tab hk] at hi ⊢
    obtain ⟨d, hd⟩ : ∃ d, c.layers.length - 1 - k = d := ⟨_, rfl⟩
    have hdn : d < c.layers.length := by omega
    have hkd : c.layers.length - 1 - d = k := by omega
    rw [gf, List.length_map, hd] at hi
    rw [gf, nth_map (by rw [hd]; exact hi), hd]
    have ho := gw_op hc hdn i hi
    rw [hkd] at ho
    obtain ⟨g, hg⟩ : ∃ g, nth (gw c d) i = g := ⟨_, rfl⟩
    rw [hg] at ho ⊢
    by_cases h0 : k = 0
    · subst h0
      have hw : wid (⟨c.inputs, tab (gf c) c.layers.length, c.sums⟩ : Circ) 0 = wid c 0 := rfl
      rw [hw, if_pos rfl]
      obtain ⟨o1, o2, o3, o4⟩ := ho
      exact zeroU_op (by omega) (fun _ => ⟨o1, o2⟩) (fun _ => ⟨o3, o4⟩)
    · rw [if_neg h0]
      rw [wid, if_neg h0] at ho
      obtain ⟨o1, o2, o3, o4⟩ := ho
      have hd1 : d + 1 < c.layers.length := by omega
      have hk1 : c.layers.length - 1 - (d + 1) = k - 1 := by omega
      have hfw : fw c (d + 1) = tab (want c (k - 1) (gw c d)) (nth c.layers (k - 1)).length := by
        rw [fw, hk1, gwN, if_neg (by omega), Nat.add_sub_cancel]
      have hw : wid (⟨c.inputs, tab (gf c) c.layers.length, c.sums⟩ : Circ) k = ((gw c (d + 1)).length : Int) := by
        rw [wid, if_neg h0]
        simp only
        rw [nth_tab (by omega), gf, List.length_map, show c.layers.length - 1 - (k - 1) = d + 1 by omega]
      rw [hw]
      have hgl := gw_len hc hd1
      have key : ∀ x : Int, 0 ≤ x → x < ((nth c.layers (k - 1)).length : Int) → usesAt g x = true → 0 ≤ nth (gnum c (k - 1)) x.toNat ∧ nth (gnum c (k - 1)) x.toNat < ((gw c (d + 1)).length : Int) := by
        intro x h1 h2 h3
        obtain ⟨j, rfl⟩ : ∃ j : Nat, x = j := ⟨x.toNat, by omega⟩
        have hj : j < (nth c.layers (k - 1)).length := by omega
        have hwant : nth (fw c (d + 1)) j = true := by
          rw [hfw, nth_tab hj, want, if_neg (by omega)]
          exact used_of hi hg h3
        rw [Int.toNat_natCast, gnum, show c.layers.length - 1 - (k - 1) = d + 1 by omega, keepN, nth_tab hj]
        have hs : (selTo (fw c (d + 1)) (nth c.layers (k - 1)) (j + 1)).length = (selTo (fw c (d + 1)) (nth c.layers (k - 1)) j).length + 1 := by
          simp only [selTo, hwant, if_true, List.length_append, List.length_cons, List.length_nil]
        have hm := sel_mono (b := fw c (d + 1)) (l := nth c.layers (k - 1)) (show j + 1 ≤ (nth c.layers (k - 1)).length by omega)
        have he : gw c (d + 1) = selTo (fw c (d + 1)) (nth c.layers (k - 1)) (nth c.layers (k - 1)).length := by
          rw [gw_eq, hk1, keepO, if_neg (by omega)]
        rw [he]
        omega
      refine zeroU_op (by omega) (fun h => ?_) (fun h => ?_)
      · have hu : usesL g = true := h
        exact key g.l o1 o2 (by simp [usesAt, hu])
      · have hu : usesR g = true := h
        exact key g.r o3 o4 (by simp [usesAt, hu])

/-- All steps, once and twice. -/
def once (f : Bool → List Gate → Gate → Gate) (c : Circ) : Circ := deadG (share (fold f c))
theorem Ok.once {f : Bool → List Gate → Gate → Gate} (hf : keeps f) {c : Circ} (hc : Ok c) : Ok (once f c) := (hc.fold hf).share.dead

section walks
variable {G : Globs}

theorem R19_All_spec (c : Circ) (hc : Ok c) (H : Hp) (R : AV → Hp → Prop) (h : R (.p (circ (once foldG (once foldG c)))) H) : ACall Try.prog G 20 [.p (circ c)] H R := by
  refine ACall.of_run (raw := []) Try.func20 rfl Try.ntmps20 (by simp) fun hbel => ?_
  have k1 := hc.fold keeps_foldG
  have k2 := k1.share
  have k3 := hc.once keeps_foldG
  have k4 := k3.fold keeps_foldG
  have k5 := k4.share
  have d1 := dead_eq k2
  have d2 := dead_eq k5
  (repeat refine .z rfl ?_); refine .text ?_; simp (disch := first | exact dsc | fail) only [go_sem, seval]
  (repeat refine .z rfl ?_); refine .text ?_; simp (disch := first | exact dsc | fail) only [go_sem, seval]
  refine CallK.of (fun R h => R19_Fold_spec c hc _ R h) ?_; simp (disch := first | exact dsc | fail) only [go_sem, seval]
  refine CallK.of (fun R h => R19_Share_spec _ k1 _ R h) ?_; simp (disch := first | exact dsc | fail) only [go_sem, seval]
  refine CallK.of (fun R h => R19_Dead_spec _ k2 _ R h) ?_; simp (disch := first | exact dsc | fail) only [go_sem, seval]
  rw [← d1]
  (repeat refine .z rfl ?_); refine .text ?_; simp (disch := first | exact dsc | fail) only [go_sem, seval]
  refine CallK.of (fun R h => R19_Fold_spec _ k3 _ R h) ?_; simp (disch := first | exact dsc | fail) only [go_sem, seval]
  refine CallK.of (fun R h => R19_Share_spec _ k4 _ R h) ?_; simp (disch := first | exact dsc | fail) only [go_sem, seval]
  refine CallK.of (fun R h => R19_Dead_spec _ k5 _ R h) ?_; simp (disch := first | exact dsc | fail) only [go_sem, seval]
  (repeat refine .z rfl ?_); refine .rt Try.func20 (by rw [Try.results20]) (hR := ?_); simp (disch := first | exact dsc | fail) only [go_sem, seval]
  rw [← d2]
  exact h
end walks
end Go.Proofs.Ytjnbifkojpfdgaa

/-
  Valid circuits: the checks say so.
-/
namespace Go.Proofs.Ytjnbifkojpfdgaa
open Go Go.AL

/-- A valid circuit. -/
structure Vd (c : Circ) : Prop where
  ok : Ok c
  inp : c.inputs ≤ 64
  len : c.layers.length ≤ 64
  row : ∀ k, k < c.layers.length → (nth c.layers k).length ≤ 64
  sm : c.sums ≤ ((nth c.layers (c.layers.length - 1)).length : Int)
  vg : ∀ k, k < c.layers.length → ∀ i, i < (nth c.layers k).length → vG (nth (nth c.layers k) i) (wid c k) = true

section walks
variable {G : Globs}

set_option maxHeartbeats 8000000 in
theorem R16_Valid_spec (c : Circ) (hv : Vd c) (H : Hp) (R : AV → Hp → Prop) (h : R (.p (i64 0)) H) : ACall Try.prog G 27 [.p (circ c)] H R := by
  refine ACall.of_run (raw := []) Try.func27 rfl Try.ntmps27 (by simp) fun hbel => ?_
  have hc := hv.ok
  obtain ⟨hl1, hl⟩ := hc.len
  obtain ⟨hi1, _⟩ := hc.inp
  obtain ⟨hs1, _⟩ := hc.sums
  have hi2 := hv.inp
  have hl2 := hv.len
  have hsm := hv.sm
  have hr0 := hc.row (c.layers.length - 1) (by omega)
  have hz0 : ((c.layers.length : Int) == 0) = false := beq_eq_false_iff_ne.2 (by omega)
  (repeat refine .z rfl ?_); refine .text ?_; simp (disch := first | exact dsc | fail) only [go_sem, seval]
  (repeat refine .z rfl ?_); refine .text ?_; simp (disch := first | exact dsc | fail) only [go_sem, seval]
  (repeat refine .z rfl ?_); refine .ifF (by simp (disch := first | exact dsc | fail) only [go_sem, seval]) ?_
  (repeat refine .z rfl ?_); refine .text ?_; simp (disch := first | exact dsc | fail) only [go_sem, seval]
  repeat refine .z rfl ?_
  refine .count (fun i env H' => env 1 = .ptr H.n 0 ∧ env 3 = .p (i64 i) ∧ H' = H.new (.cells (cc c))) 0 c.layers.length (by omega) ?_ ?_ ?_
  · simp (disch := first | exact dsc | fail) only [go_sem, seval]
  rotate_left
  · intro i env H' _ hi ⟨e1, e3, eH⟩ ih
    subst eH
    have hr1 := (hc.row i hi).2
    have hr2 := hv.row i hi
    (repeat refine .z rfl ?_); refine .text ?_; simp (disch := first | exact dsc | fail) only [go_sem, seval, e1, e3]
    (repeat refine .z rfl ?_); refine .ifT (by simp (disch := first | exact dsc | fail) only [go_sem, seval]) ?_
    (repeat refine .z rfl ?_); refine .text ?_; simp (disch := first | exact dsc | fail) only [go_sem, seval, e1, e3]
    (repeat refine .z rfl ?_); refine .ifF (by simp (disch := first | exact dsc | fail) only [go_sem, seval]) ?_
    (repeat refine .z rfl ?_); refine .text ?_; simp (disch := first | exact dsc | fail) only [go_sem, seval, e3]
    refine ih _ _ ?_
    simp (disch := first | exact dsc | fail) only [go_sem, seval, e1, e3]
  intro env H' ⟨e1, e3, eH⟩
  subst eH
  (repeat refine .z rfl ?_); refine .text ?_; simp (disch := first | exact dsc | fail) only [go_sem, seval, e1, e3]
  (repeat refine .z rfl ?_); refine .ifF (by simp (disch := first | exact dsc | fail) only [go_sem, seval]) ?_
  (repeat refine .z rfl ?_); refine .text ?_; simp (disch := first | exact dsc | fail) only [go_sem, seval, e1, hz0]
  (repeat refine .z rfl ?_); refine .ifF (by simp (disch := first | exact dsc | fail) only [go_sem, seval]) ?_
  (repeat refine .z rfl ?_); refine .text ?_; simp (disch := first | exact dsc | fail) only [go_sem, seval]
  repeat refine .z rfl ?_
  refine .count (fun i env H' => env 1 = .ptr H.n 0 ∧ env 4 = .p (i64 i) ∧ H' = H.new (.cells (cc c))) 0 c.layers.length (by omega) ?_ ?_ ?_
  · simp (disch := first | exact dsc | fail) only [go_sem, seval, e1]
  rotate_left
  · intro i env H' _ hi ⟨e1, e4, eH⟩ ih
    subst eH
    have hr1 := hc.row i hi
    have hz : (((nth c.layers i).length : Int) == 0) = false := beq_eq_false_iff_ne.2 (by omega)
    (repeat refine .z rfl ?_); refine .text ?_; simp (disch := first | exact dsc | fail) only [go_sem, seval, e1, e4]
    (repeat refine .z rfl ?_); refine .ifT (by simp (disch := first | exact dsc | fail) only [go_sem, seval]) ?_
    (repeat refine .z rfl ?_); refine .text ?_; simp (disch := first | exact dsc | fail) only [go_sem, seval, e1, e4, hz]
    (repeat refine .z rfl ?_); refine .ifF (by simp (disch := first | exact dsc | fail) only [go_sem, seval]) ?_
    (repeat refine .z rfl ?_); refine .text ?_; simp (disch := first | exact dsc | fail) only [go_sem, seval, e4]
    refine ih _ _ ?_
    simp (disch := first | exact dsc | fail) only [go_sem, seval, e1, e4]
  clear e1 e3
  intro env H' ⟨e1, e4, eH⟩
  subst eH
  (repeat refine .z rfl ?_); refine .text ?_; simp (disch := first | exact dsc | fail) only [go_sem, seval, e1, e4]
  (repeat refine .z rfl ?_); refine .ifF (by simp (disch := first | exact dsc | fail) only [go_sem, seval]) ?_
  (repeat refine .z rfl ?_); refine .open [] follows (by kernel_rfl) ?_; simp (disch := first | exact dsc | fail) only [go_sem, seval, e1]
  (repeat refine .z rfl ?_); refine .ifF (by simp (disch := first | exact dsc | fail) only [go_sem, seval]) ?_
  (repeat refine .z rfl ?_); refine .text ?_; simp (disch := first | exact dsc | fail) only [go_sem, seval, e1]
  (repeat refine .z rfl ?_); refine .text ?_; simp (disch := first | exact dsc | fail) only [go_sem, seval]
  repeat refine .z rfl ?_
  refine .count (fun k env H' => env 1 = .ptr H.n 0 ∧ env 5 = .p (i64 (wid c k)) ∧ env 6 = .p (i64 k) ∧ H' = H.new (.cells (cc c))) 0 c.layers.length (by omega) ?_ ?_ ?_
  · simp (disch := first | exact dsc | fail) only [go_sem, seval, e1]
    rfl
  · clear e1 e4
    intro env H' ⟨e1, e5, e6, eH⟩
    subst eH
    (repeat refine .z rfl ?_); refine .text ?_; simp (disch := first | exact dsc | fail) only [go_sem, seval, e1, e6]
    (repeat refine .z rfl ?_); refine .ifF (by simp (disch := first | exact dsc | fail) only [go_sem, seval]) ?_
    (repeat refine .z rfl ?_); refine .text ?_; simp (disch := first | exact dsc | fail) only [go_sem, seval]
    (repeat refine .z rfl ?_); refine .rt Try.func27 (by rw [Try.results27]) (hR := ?_); simp (disch := first | exact dsc | fail) only [go_sem, seval]
    exact h
  · clear e1 e4
    intro k env H' _ hk ⟨e1, e5, e6, eH⟩ ih
    subst eH
    have hr := (hc.row k hk).2
    (repeat refine .z rfl ?_); refine .text ?_; simp (disch := first | exact dsc | fail) only [go_sem, seval, e1, e6]
    (repeat refine .z rfl ?_); refine .ifT (by simp (disch := first | exact dsc | fail) only [go_sem, seval]) ?_
    (repeat refine .z rfl ?_); refine .text ?_; simp (disch := first | exact dsc | fail) only [go_sem, seval]
    repeat refine .z rfl ?_
    refine .count (fun i env H' => env 1 = .ptr H.n 0 ∧ env 5 = .p (i64 (wid c k)) ∧ env 6 = .p (i64 k) ∧ env 7 = .p (i64 i) ∧ H' = H.new (.cells (cc c))) 0 (nth c.layers k).length (by omega) ?_ ?_ ?_
    · simp (disch := first | exact dsc | fail) only [go_sem, seval, e1, e5, e6]
    · clear e1 e5 e6
      intro env H' ⟨e1, e5, e6, e7, eH⟩
      subst eH
      (repeat refine .z rfl ?_); refine .text ?_; simp (disch := first | exact dsc | fail) only [go_sem, seval, e1, e6, e7]
      (repeat refine .z rfl ?_); refine .ifF (by simp (disch := first | exact dsc | fail) only [go_sem, seval]) ?_
      (repeat refine .z rfl ?_); refine .text ?_; simp (disch := first | exact dsc | fail) only [go_sem, seval, e1, e6]
      (repeat refine .z rfl ?_); refine .text ?_; simp (disch := first | exact dsc | fail) only [go_sem, seval, e6]
      refine ih _ _ ?_
      simp (disch := first | exact dsc | fail) only [go_sem, seval, e1, e6]
      rfl
    · clear e1 e5 e6
      intro i env H' _ hi ⟨e1, e5, e6, e7, eH⟩ ih
      subst eH
      have hg := hv.vg k hk i hi
      (repeat refine .z rfl ?_); refine .text ?_; simp (disch := first | exact dsc | fail) only [go_sem, seval, e1, e6, e7]
      (repeat refine .z rfl ?_); refine .ifT (by simp (disch := first | exact dsc | fail) only [go_sem, seval]) ?_
      (repeat refine .z rfl ?_); refine .text ?_; simp (disch := first | exact dsc | fail) only [go_sem, seval, e1, e5, e6, e7]
      refine CallK.of (fun R h => R16_validGate_spec _ _ _ R h) ?_; simp (disch := first | exact dsc | fail) only [go_sem, seval, hg]
      (repeat refine .z rfl ?_); refine .ifF (by simp (disch := first | exact dsc | fail) only [go_sem, seval]) ?_
      (repeat refine .z rfl ?_); refine .text ?_; simp (disch := first | exact dsc | fail) only [go_sem, seval, e7]
      refine ih _ _ ?_
      simp (disch := first | exact dsc | fail) only [go_sem, seval, e1, e5, e6, e7]
end walks
end Go.Proofs.Ytjnbifkojpfdgaa

/-
  Valid circuits: the program's check says so.
-/
namespace Go.Proofs.Ytjnbifkojpfdgaa
open Go Go.AL

theorem vG_inv {g : Gate} {n : Int} (h : vG g n = true) : (0 ≤ g.l ∧ g.l < n ∧ 0 ≤ g.r ∧ g.r < n) ∧ valid g.c = true ∧ valid g.a = true ∧ valid g.b = true ∧ valid g.d = true := by
  simp only [vG, Bool.and_eq_true, decide_eq_true_eq] at h
  obtain ⟨⟨⟨⟨⟨⟨⟨h1, h2⟩, h3⟩, h4⟩, h5⟩, h6⟩, h7⟩, h8⟩ := h
  exact ⟨⟨h1, h2, h3, h4⟩, h5, h6, h7, h8⟩

section walks
variable {G : Globs}


theorem IndexL_spec (xs : List (List Gate)) (hl : xs.length ≤ 1000) (f : Nat) (caps : List AV) (hent : enters Try.prog f = true) (hcw : caps.map AV.weak = caps) (H : Hp) (hf : ∀ i, i < xs.length → ∀ R : AV → Hp → Prop, R (.p (bo false)) H → ACall Try.prog G f (.p (.sl false 6 (pl gate (nth xs i))) :: caps) H R) (R : AV → Hp → Prop) (h : R (.p (i64 (-1))) H) :
    ACall Try.prog G 80 [.p (.sl false 1 (pl (sle 6 gate) xs)), .clo f [] caps] H R := by
  refine ACall.of_run (raw := []) Try.func80 rfl Try.ntmps80 (by simp) fun hbel => ?_
  (repeat refine .z rfl ?_); refine .text ?_; simp (disch := first | exact dsc | fail) only [go_sem, seval]
  (repeat refine .z rfl ?_); refine .text ?_; simp (disch := first | exact dsc | fail) only [go_sem, seval]
  repeat refine .z rfl ?_
  refine .count (fun i env H' => env 0 = .p (.sl false 1 (pl (sle 6 gate) xs)) ∧ env 1 = .clo f [] caps ∧ env 7 = .p (i64 xs.length) ∧ env 8 = .p (i64 i) ∧ H' = H) 0 xs.length (by omega) ?_ ?_ ?_
  · simp (disch := first | exact dsc | fail) only [go_sem, seval]
  · intro env H' ⟨e0, e1, e7, e8, eH⟩
    subst eH
    (repeat refine .z rfl ?_); refine .text ?_; simp (disch := first | exact dsc | fail) only [go_sem, seval, e7, e8]
    (repeat refine .z rfl ?_); refine .ifF (by simp (disch := first | exact dsc | fail) only [go_sem, seval]) ?_
    (repeat refine .z rfl ?_); refine .text ?_; simp (disch := first | exact dsc | fail) only [go_sem, seval]
    (repeat refine .z rfl ?_); refine .rt Try.func80 (by rw [Try.results80]) (hR := ?_); simp (disch := first | exact dsc | fail) only [go_sem, seval]
    exact h
  · intro i env H' _ hi ⟨e0, e1, e7, e8, eH⟩ ih
    subst eH
    have hfi := hf i hi
    (repeat refine .z rfl ?_); refine .text ?_; simp (disch := first | exact dsc | fail) only [go_sem, seval, e7, e8]
    (repeat refine .z rfl ?_); refine .ifT (by simp (disch := first | exact dsc | fail) only [go_sem, seval]) ?_
    (repeat refine .z rfl ?_); refine .text ?_; simp (disch := first | exact dsc | fail) only [go_sem, seval, e8]
    (repeat refine .z rfl ?_); refine .text ?_; simp (disch := first | exact dsc | fail) only [go_sem, seval, e0, e1, hent, hcw]
    refine CallK.of (fun R h => hfi R h) ?_; simp (disch := first | exact dsc | fail) only [go_sem, seval]
    (repeat refine .z rfl ?_); refine .ifF (by simp (disch := first | exact dsc | fail) only [go_sem, seval]) ?_
    (repeat refine .z rfl ?_); refine .text ?_; simp (disch := first | exact dsc | fail) only [go_sem, seval, e8]
    refine ih _ _ ?_
    simp (disch := first | exact dsc | fail) only [go_sem, seval, e0, e1, e7, e8]

theorem ContainsL_spec (xs : List (List Gate)) (hl : xs.length ≤ 1000) (f : Nat) (caps : List AV) (hent : enters Try.prog f = true) (hcw : caps.map AV.weak = caps) (H : Hp) (hf : ∀ i, i < xs.length → ∀ R : AV → Hp → Prop, R (.p (bo false)) H → ACall Try.prog G f (.p (.sl false 6 (pl gate (nth xs i))) :: caps) H R) (R : AV → Hp → Prop) (h : R (.p (bo false)) H) :
    ACall Try.prog G 65 [.p (.sl false 1 (pl (sle 6 gate) xs)), .clo f [] caps] H R := by
  refine ACall.of_run (raw := []) Try.func65 rfl Try.ntmps65 (by simp) fun hbel => ?_
  (repeat refine .z rfl ?_); refine .text ?_; simp (disch := first | exact dsc | fail) only [go_sem, seval]
  (repeat refine .z rfl ?_); refine .text ?_; simp (disch := first | exact dsc | fail) only [go_sem, seval]
  refine CallK.of (fun R h => IndexL_spec xs hl f caps hent hcw _ hf R h) ?_; simp (disch := first | exact dsc | fail) only [go_sem, seval]
  (repeat refine .z rfl ?_); refine .rt Try.func65 (by rw [Try.results65]) (hR := ?_); simp (disch := first | exact dsc | fail) only [go_sem, seval]
  exact h

theorem IndexG_spec (xs : List Gate) (hl : xs.length ≤ 1000) (f : Nat) (caps : List AV) (hent : enters Try.prog f = true) (hcw : caps.map AV.weak = caps) (H : Hp) (hf : ∀ i, i < xs.length → ∀ R : AV → Hp → Prop, R (.p (bo false)) H → ACall Try.prog G f (.p (gate (nth xs i)) :: caps) H R) (R : AV → Hp → Prop) (h : R (.p (i64 (-1))) H) :
    ACall Try.prog G 81 [.p (.sl false 6 (pl gate xs)), .clo f [] caps] H R := by
  refine ACall.of_run (raw := []) Try.func81 rfl Try.ntmps81 (by simp) fun hbel => ?_
  (repeat refine .z rfl ?_); refine .text ?_; simp (disch := first | exact dsc | fail) only [go_sem, seval]
  (repeat refine .z rfl ?_); refine .text ?_; simp (disch := first | exact dsc | fail) only [go_sem, seval]
  repeat refine .z rfl ?_
  refine .count (fun i env H' => env 0 = .p (.sl false 6 (pl gate xs)) ∧ env 1 = .clo f [] caps ∧ env 7 = .p (i64 xs.length) ∧ env 8 = .p (i64 i) ∧ H' = H) 0 xs.length (by omega) ?_ ?_ ?_
  · simp (disch := first | exact dsc | fail) only [go_sem, seval]
  · intro env H' ⟨e0, e1, e7, e8, eH⟩
    subst eH
    (repeat refine .z rfl ?_); refine .text ?_; simp (disch := first | exact dsc | fail) only [go_sem, seval, e7, e8]
    (repeat refine .z rfl ?_); refine .ifF (by simp (disch := first | exact dsc | fail) only [go_sem, seval]) ?_
    (repeat refine .z rfl ?_); refine .text ?_; simp (disch := first | exact dsc | fail) only [go_sem, seval]
    (repeat refine .z rfl ?_); refine .rt Try.func81 (by rw [Try.results81]) (hR := ?_); simp (disch := first | exact dsc | fail) only [go_sem, seval]
    exact h
  · intro i env H' _ hi ⟨e0, e1, e7, e8, eH⟩ ih
    subst eH
    have hfi := hf i hi
    (repeat refine .z rfl ?_); refine .text ?_; simp (disch := first | exact dsc | fail) only [go_sem, seval, e7, e8]
    (repeat refine .z rfl ?_); refine .ifT (by simp (disch := first | exact dsc | fail) only [go_sem, seval]) ?_
    (repeat refine .z rfl ?_); refine .text ?_; simp (disch := first | exact dsc | fail) only [go_sem, seval, e8]
    (repeat refine .z rfl ?_); refine .text ?_; simp (disch := first | exact dsc | fail) only [go_sem, seval, e0, e1, hent, hcw]
    refine CallK.of (fun R h => hfi R h) ?_; simp (disch := first | exact dsc | fail) only [go_sem, seval]
    (repeat refine .z rfl ?_); refine .ifF (by simp (disch := first | exact dsc | fail) only [go_sem, seval]) ?_
    (repeat refine .z rfl ?_); refine .text ?_; simp (disch := first | exact dsc | fail) only [go_sem, seval, e8]
    refine ih _ _ ?_
    simp (disch := first | exact dsc | fail) only [go_sem, seval, e0, e1, e7, e8]

theorem ContainsG_spec (xs : List Gate) (hl : xs.length ≤ 1000) (f : Nat) (caps : List AV) (hent : enters Try.prog f = true) (hcw : caps.map AV.weak = caps) (H : Hp) (hf : ∀ i, i < xs.length → ∀ R : AV → Hp → Prop, R (.p (bo false)) H → ACall Try.prog G f (.p (gate (nth xs i)) :: caps) H R) (R : AV → Hp → Prop) (h : R (.p (bo false)) H) :
    ACall Try.prog G 70 [.p (.sl false 6 (pl gate xs)), .clo f [] caps] H R := by
  refine ACall.of_run (raw := []) Try.func70 rfl Try.ntmps70 (by simp) fun hbel => ?_
  (repeat refine .z rfl ?_); refine .text ?_; simp (disch := first | exact dsc | fail) only [go_sem, seval]
  (repeat refine .z rfl ?_); refine .text ?_; simp (disch := first | exact dsc | fail) only [go_sem, seval]
  refine CallK.of (fun R h => IndexG_spec xs hl f caps hent hcw _ hf R h) ?_; simp (disch := first | exact dsc | fail) only [go_sem, seval]
  (repeat refine .z rfl ?_); refine .rt Try.func70 (by rw [Try.results70]) (hR := ?_); simp (disch := first | exact dsc | fail) only [go_sem, seval]
  exact h

theorem Valid_c1_spec (l : List Gate) (hl : l.length ≤ 64) (H : Hp) (R : AV → Hp → Prop) (h : R (.p (bo false)) H) : ACall Try.prog G 64 [.p (.sl false 6 (pl gate l))] H R := by
  refine ACall.of_run (raw := []) Try.func64 rfl Try.ntmps64 (by simp) fun hbel => ?_
  (repeat refine .z rfl ?_); refine .text ?_; simp (disch := first | exact dsc | fail) only [go_sem, seval]
  (repeat refine .z rfl ?_); refine .text ?_; simp (disch := first | exact dsc | fail) only [go_sem, seval]
  (repeat refine .z rfl ?_); refine .rt Try.func64 (by rw [Try.results64]) (hR := ?_); simp (disch := first | exact dsc | fail) only [go_sem, seval]
  exact h

theorem Valid_c2_spec (l : List Gate) (hl : 1 ≤ l.length) (H : Hp) (R : AV → Hp → Prop) (h : R (.p (bo false)) H) : ACall Try.prog G 66 [.p (.sl false 6 (pl gate l))] H R := by
  refine ACall.of_run (raw := []) Try.func66 rfl Try.ntmps66 (by simp) fun hbel => ?_
  have hz : ((l.length : Int) == 0) = false := beq_eq_false_iff_ne.2 (by omega)
  (repeat refine .z rfl ?_); refine .text ?_; simp (disch := first | exact dsc | fail) only [go_sem, seval]
  (repeat refine .z rfl ?_); refine .text ?_; simp (disch := first | exact dsc | fail) only [go_sem, seval, hz]
  (repeat refine .z rfl ?_); refine .rt Try.func66 (by rw [Try.results66]) (hR := ?_); simp (disch := first | exact dsc | fail) only [go_sem, seval]
  exact h

theorem Valid_c31_spec (x n : Int) (hx : 0 ≤ x ∧ x < n) (p : Nat) (H : Hp) (hp : H.f p = some (.cells [.p (i64 n)])) (R : AV → Hp → Prop) (h : R (.p (bo false)) H) : ACall Try.prog G 68 [.p (i64 x), .ptr p 0] H R := by
  refine ACall.of_run (raw := []) Try.func68 rfl Try.ntmps68 (by simp) fun hbel => ?_
  obtain ⟨h1, h2⟩ := hx
  (repeat refine .z rfl ?_); refine .text ?_; simp (disch := first | exact dsc | fail) only [go_sem, seval]
  (repeat refine .z rfl ?_); refine .text ?_; simp (disch := first | exact dsc | fail) only [go_sem, seval, hp]
  (repeat refine .z rfl ?_); refine .rt Try.func68 (by rw [Try.results68]) (hR := ?_); simp (disch := first | exact dsc | fail) only [go_sem, seval]
  exact h

theorem Valid_c3_spec (g : Gate) (n : Int) (hg : vG g n = true) (p : Nat) (H : Hp) (hp : H.f p = some (.cells [.p (i64 n)])) (R : AV → Hp → Prop) (h : R (.p (bo false)) H) : ACall Try.prog G 67 [.p (gate g), .ptr p 0] H R := by
  refine ACall.of_run (raw := []) Try.func67 rfl Try.ntmps67 (by simp) fun hbel => ?_
  obtain ⟨⟨h1, h2, h3, h4⟩, h5, h6, h7, h8⟩ := vG_inv hg
  have hpl := Hp.lt hp
  have hp1 : ∀ x, (H.new x).f p = some (.cells [.p (i64 n)]) := fun x => by rw [Hp.f_new_old H x p hpl]; exact hp
  (repeat refine .z rfl ?_); refine .text ?_; simp (disch := first | exact dsc | fail) only [go_sem, seval]
  (repeat refine .z rfl ?_); refine .text ?_; simp (disch := first | exact dsc | fail) only [go_sem, seval]
  (repeat refine .z rfl ?_); refine .text ?_; simp (disch := first | exact dsc | fail) only [go_sem, seval]
  refine CallK.of (fun R h => Valid_c31_spec g.l n ⟨h1, h2⟩ p _ (hp1 _) R h) ?_; simp (disch := first | exact dsc | fail) only [go_sem, seval]
  refine CallK.of (fun R h => Valid_c31_spec g.r n ⟨h3, h4⟩ p _ (hp1 _) R h) ?_; simp (disch := first | exact dsc | fail) only [go_sem, seval]
  refine CallK.of (fun R h => fValid_spec _ _ R h) ?_; simp (disch := first | exact dsc | fail) only [go_sem, seval, h5]
  refine CallK.of (fun R h => fValid_spec _ _ R h) ?_; simp (disch := first | exact dsc | fail) only [go_sem, seval, h6]
  refine CallK.of (fun R h => fValid_spec _ _ R h) ?_; simp (disch := first | exact dsc | fail) only [go_sem, seval, h7]
  refine CallK.of (fun R h => fValid_spec _ _ R h) ?_; simp (disch := first | exact dsc | fail) only [go_sem, seval, h8]
  (repeat refine .z rfl ?_); refine .rt Try.func67 (by rw [Try.results67]) (hR := ?_); simp (disch := first | exact dsc | fail) only [go_sem, seval]
  exact h

set_option maxHeartbeats 8000000 in
theorem circuit_Valid_spec (c : Circ) (hv : Vd c) (H : Hp) (R : AV → Hp → Prop) (h : R (.p (i64 0)) H) : ACall Try.prog G 49 [.p (circ c)] H R := by
  refine ACall.of_run (raw := []) Try.func49 rfl Try.ntmps49 (by simp) fun hbel => ?_
  have hc := hv.ok
  obtain ⟨hl1, hl⟩ := hc.len
  obtain ⟨hi1, _⟩ := hc.inp
  obtain ⟨hs1, _⟩ := hc.sums
  have hi2 := hv.inp
  have hl2 := hv.len
  have hsm := hv.sm
  have hr0 := hc.row (c.layers.length - 1) (by omega)
  have hz0 : ((c.layers.length : Int) == 0) = false := beq_eq_false_iff_ne.2 (by omega)
  (repeat refine .z rfl ?_); refine .text ?_; simp (disch := first | exact dsc | fail) only [go_sem, seval]
  (repeat refine .z rfl ?_); refine .text ?_; simp (disch := first | exact dsc | fail) only [go_sem, seval]
  (repeat refine .z rfl ?_); refine .text ?_; simp (disch := first | exact dsc | fail) only [go_sem, seval]
  refine CallK.of (fun R h => ContainsL_spec c.layers hl 64 [] enters64 rfl _ (fun i hi R h => Valid_c1_spec _ (hv.row i hi) _ R h) R h) ?_; simp (disch := first | exact dsc | fail) only [go_sem, seval]
  (repeat refine .z rfl ?_); refine .ifF (by simp (disch := first | exact dsc | fail) only [go_sem, seval]) ?_
  (repeat refine .z rfl ?_); refine .text ?_; simp (disch := first | exact dsc | fail) only [go_sem, seval]
  (repeat refine .z rfl ?_); refine .open [] follows (by kernel_rfl) ?_; simp (disch := first | exact dsc | fail) only [go_sem, seval, hz0]
  refine CallD.still (fun R h => ContainsL_spec c.layers hl 66 [] enters66 rfl _ (fun i hi R h => Valid_c2_spec _ (hc.row i hi).1 _ R h) R h) ?_; simp (disch := first | exact dsc | fail) only [go_sem, seval]
  (repeat refine .z rfl ?_); refine .ifF (by simp (disch := first | exact dsc | fail) only [go_sem, seval]) ?_
  (repeat refine .z rfl ?_); refine .text ?_; simp (disch := first | exact dsc | fail) only [go_sem, seval]
  (repeat refine .z rfl ?_); refine .text ?_; simp (disch := first | exact dsc | fail) only [go_sem, seval]
  (repeat refine .z rfl ?_); refine .text ?_; simp (disch := first | exact dsc | fail) only [go_sem, seval]
  repeat refine .z rfl ?_
  refine .count (fun k env H' => env 1 = .ptr H.n 0 ∧ env 5 = .ptr (H.n+1) 0 ∧ env 6 = .clo 67 [] [.ptr (H.n+1) 0] ∧ env 62 = .p (.sl false 1 (pl (sle 6 gate) c.layers)) ∧ env 63 = .p (i64 c.layers.length) ∧ env 64 = .p (i64 k) ∧ H' = (H.new (.cells (cc c))).new (.cells [.p (i64 (wid c k))])) 0 c.layers.length (by omega) ?_ ?_ ?_
  · simp (disch := first | exact dsc | fail) only [go_sem, seval]
    rfl
  · intro env H' ⟨e1, e5, e6, e62, e63, e64, eH⟩
    subst eH
    (repeat refine .z rfl ?_); refine .text ?_; simp (disch := first | exact dsc | fail) only [go_sem, seval, e63, e64]
    (repeat refine .z rfl ?_); refine .ifF (by simp (disch := first | exact dsc | fail) only [go_sem, seval]) ?_
    (repeat refine .z rfl ?_); refine .text ?_; simp (disch := first | exact dsc | fail) only [go_sem, seval]
    (repeat refine .z rfl ?_); refine .rt Try.func49 (by rw [Try.results49]) (hR := ?_); simp (disch := first | exact dsc | fail) only [go_sem, seval]
    exact h
  · intro k env H' _ hk ⟨e1, e5, e6, e62, e63, e64, eH⟩ ih
    subst eH
    have hr := (hc.row k hk).2
    have hf : ∀ Hx : Hp, Hx.f (H.n + 1) = some (.cells [.p (i64 (wid c k))]) → ∀ i, i < (nth c.layers k).length → ∀ R : AV → Hp → Prop, R (.p (bo false)) Hx → ACall Try.prog G 67 (.p (gate (nth (nth c.layers k) i)) :: [.ptr (H.n + 1) 0]) Hx R := fun Hx hx i hi R h => Valid_c3_spec _ _ (hv.vg k hk i hi) _ _ hx R h
    (repeat refine .z rfl ?_); refine .text ?_; simp (disch := first | exact dsc | fail) only [go_sem, seval, e63, e64]
    (repeat refine .z rfl ?_); refine .ifT (by simp (disch := first | exact dsc | fail) only [go_sem, seval]) ?_
    (repeat refine .z rfl ?_); refine .text ?_; simp (disch := first | exact dsc | fail) only [go_sem, seval, e62, e64]
    (repeat refine .z rfl ?_); refine .text ?_; simp (disch := first | exact dsc | fail) only [go_sem, seval, e6]
    refine CallK.of (fun R h => ContainsG_spec (nth c.layers k) hr 67 [.ptr (H.n + 1) 0] enters67 rfl _ (hf _ (by simp (disch := first | exact dsc | fail) only [go_sem, seval])) R h) ?_; simp (disch := first | exact dsc | fail) only [go_sem, seval]
    (repeat refine .z rfl ?_); refine .ifF (by simp (disch := first | exact dsc | fail) only [go_sem, seval]) ?_
    (repeat refine .z rfl ?_); refine .text ?_; simp (disch := first | exact dsc | fail) only [go_sem, seval, e5]
    (repeat refine .z rfl ?_); refine .text ?_; simp (disch := first | exact dsc | fail) only [go_sem, seval, e64]
    refine ih _ _ ?_
    simp (disch := first | exact dsc | fail) only [go_sem, seval, e1, e5, e6, e62, e63, e64]
    rfl
end walks
end Go.Proofs.Ytjnbifkojpfdgaa

/-
  All steps of the program.
-/
namespace Go.Proofs.Ytjnbifkojpfdgaa
open Go Go.AL

def step1 (j : Nat) (c : Circ) : Circ := match j with | 0 => fold goG c | 1 => share c | _ => deadG c
/-- The circuit after j steps of round i. -/
def stp (c : Circ) : Nat → Circ
  | 0 => c
  | s + 1 => step1 (s % 3) (stp c s)
theorem stp_all (c : Circ) : stp c 6 = once goG (once goG c) := rfl

theorem mkAgg_clo {f : Nat} {a b : List AV} : mkAgg [.clo f a b] = .agg [.clo f a b] := rfl
theorem acells_agg {xs : List AV} : acells (.agg xs) = some xs := rfl
theorem mkAgg_clo3 {f g h : Nat} {a b a' b' a'' b'' : List AV} : mkAgg [.clo f a b, .clo g a' b', .clo h a'' b''] = .agg [.clo f a b, .clo g a' b', .clo h a'' b''] := rfl
theorem isAggV_agg {xs : List AV} : (AV.agg xs).isAggV = true := rfl
attribute [go_sem] mkAgg_clo acells_agg mkAgg_clo3 isAggV_agg

section walks
variable {G : Globs}

set_option maxHeartbeats 8000000 in
theorem optimize_All_spec (c : Circ) (hv : ∀ s, s < 6 → Vd (stp c s)) (H : Hp) (R : AV → Hp → Prop) (h : R (.p (circ (once goG (once goG c)))) H) : ACall Try.prog G 19 [.p (circ c)] H R := by
  refine ACall.of_run (raw := []) Try.func19 rfl Try.ntmps19 (by simp) fun hbel => ?_
  (repeat refine .z rfl ?_); refine .text ?_; simp (disch := first | exact dsc | fail) only [go_sem, seval]
  (repeat refine .z rfl ?_); refine .text ?_; simp (disch := first | exact dsc | fail) only [go_sem, seval]
  (repeat refine .z rfl ?_); refine .text ?_; simp (disch := first | exact dsc | fail) only [go_sem, seval]
  repeat refine .z rfl ?_
  refine .count (fun i env H' => env 1 = .ptr H.n 0 ∧ env 2 = .ptr (H.n+1) 0 ∧ env 3 = .ptr (H.n+2) 0 ∧ env 10 = .p (i64 i) ∧ ∃ S, H' = app (((H.new (.cells (cc (stp c (3 * i))))).new (.cells [.p (i64 0), .p (.sl true 1 []), .p (i64 0)])).new (.cells [.clo 14 [] [], .clo 15 [] [], .clo 17 [] []])) S) 0 2 (by omega) ?_ ?_ ?_
  · simp (disch := first | exact dsc | fail) only [go_sem, seval]
    exact ⟨[], rfl⟩
  · intro env H' ⟨e1, e2, e3, e10, S, eH⟩
    subst eH
    (repeat refine .z rfl ?_); refine .text ?_; simp (disch := first | exact dsc | fail) only [go_sem, seval, e10]
    (repeat refine .z rfl ?_); refine .ifF (by simp (disch := first | exact dsc | fail) only [go_sem, seval]) ?_
    (repeat refine .z rfl ?_); refine .text ?_; simp (disch := first | exact dsc | fail) only [go_sem, seval, e1, e2]
    (repeat refine .z rfl ?_); refine .rt Try.func19 (by rw [Try.results19]) (hx := by simp (disch := first | exact dsc | fail) only [go_sem, seval, e2]; rfl) (hR := ?_); simp (disch := first | exact dsc | fail) only [go_sem, seval, e2]
    exact h
  · intro i env H' _ hi ⟨e1, e2, e3, e10, S, eH⟩ ih
    subst eH
    (repeat refine .z rfl ?_); refine .text ?_; simp (disch := first | exact dsc | fail) only [go_sem, seval, e10]
    (repeat refine .z rfl ?_); refine .ifT (by simp (disch := first | exact dsc | fail) only [go_sem, seval]) ?_
    (repeat refine .z rfl ?_); refine .text ?_; simp (disch := first | exact dsc | fail) only [go_sem, seval, e3]
    repeat refine .z rfl ?_
    refine .count (fun j env H' => env 1 = .ptr H.n 0 ∧ env 2 = .ptr (H.n+1) 0 ∧ env 3 = .ptr (H.n+2) 0 ∧ env 10 = .p (i64 i) ∧ env 12 = .agg [.clo 14 [] [], .clo 15 [] [], .clo 17 [] []] ∧ env 13 = .p (i64 j) ∧ ∃ S, H' = app (((H.new (.cells (cc (stp c (3 * i + j))))).new (.cells [.p (i64 0), .p (.sl true 1 []), .p (i64 0)])).new (.cells [.clo 14 [] [], .clo 15 [] [], .clo 17 [] []])) S) 0 3 (by omega) ?_ ?_ ?_
    · simp (disch := first | exact dsc | fail) only [go_sem, seval, e1, e2, e3, e10]
      exact ⟨S, rfl⟩
    · intro env H' ⟨e1, e2, e3, e10, e12, e13, S, eH⟩
      subst eH
      (repeat refine .z rfl ?_); refine .text ?_; simp (disch := first | exact dsc | fail) only [go_sem, seval, e13]
      (repeat refine .z rfl ?_); refine .ifF (by simp (disch := first | exact dsc | fail) only [go_sem, seval]) ?_
      (repeat refine .z rfl ?_); refine .text ?_; simp (disch := first | exact dsc | fail) only [go_sem, seval, e10]
      refine ih _ _ ?_
      simp (disch := first | exact dsc | fail) only [go_sem, seval, e1, e2, e3, e10]
      exact ⟨S, rfl⟩
    · intro j env H' _ hj ⟨e1, e2, e3, e10, e12, e13, S, eH⟩ ih
      subst eH
      have hvs := hv (3 * i + j) (by omega)
      have hst : stp c (3 * i + (j + 1)) = step1 j (stp c (3 * i + j)) := by
        rw [show 3 * i + (j + 1) = (3 * i + j) + 1 by omega, stp, show (3 * i + j) % 3 = j by omega]
      rw [hst] at ih
      generalize stp c (3 * i + j) = x at *
      rcases j with _ | _ | _ | j
      · (repeat refine .z rfl ?_); refine .text ?_; simp (disch := first | exact dsc | fail) only [go_sem, seval, e13]
        (repeat refine .z rfl ?_); refine .ifT (by simp (disch := first | exact dsc | fail) only [go_sem, seval]) ?_
        (repeat refine .z rfl ?_); refine .text ?_; simp (disch := first | exact dsc | fail) only [go_sem, seval, e12, e13]
        (repeat refine .z rfl ?_); refine .text ?_; simp (disch := first | exact dsc | fail) only [go_sem, seval, e1]
        refine CallK.of (fun R h => circuit_Valid_spec x hvs _ R h) ?_; simp (disch := first | exact dsc | fail) only [go_sem, seval]
        (repeat refine .z rfl ?_); refine .ifT (by simp (disch := first | exact dsc | fail) only [go_sem, seval]) ?_
        (repeat refine .z rfl ?_); refine .text ?_; simp (disch := first | exact dsc | fail) only [go_sem, seval, e1]
        refine CallK.of (fun R h => optimize_Fold_spec x hvs.ok _ R h) ?_; simp (disch := first | exact dsc | fail) only [go_sem, seval, e1]
        (repeat refine .z rfl ?_); refine .text ?_; simp (disch := first | exact dsc | fail) only [go_sem, seval, e13]
        refine ih _ _ ?_
        simp (disch := first | exact dsc | fail) only [go_sem, seval, e1, e2, e3, e10, e12, e13, step1]
        exact ⟨_, app_new⟩
      · (repeat refine .z rfl ?_); refine .text ?_; simp (disch := first | exact dsc | fail) only [go_sem, seval, e13]
        (repeat refine .z rfl ?_); refine .ifT (by simp (disch := first | exact dsc | fail) only [go_sem, seval]) ?_
        (repeat refine .z rfl ?_); refine .text ?_; simp (disch := first | exact dsc | fail) only [go_sem, seval, e12, e13]
        (repeat refine .z rfl ?_); refine .text ?_; simp (disch := first | exact dsc | fail) only [go_sem, seval, e1]
        refine CallK.of (fun R h => circuit_Valid_spec x hvs _ R h) ?_; simp (disch := first | exact dsc | fail) only [go_sem, seval]
        (repeat refine .z rfl ?_); refine .ifT (by simp (disch := first | exact dsc | fail) only [go_sem, seval]) ?_
        (repeat refine .z rfl ?_); refine .text ?_; simp (disch := first | exact dsc | fail) only [go_sem, seval, e1]
        refine CallK.of (fun R h => optimize_Share_spec x hvs.ok _ R h) ?_; simp (disch := first | exact dsc | fail) only [go_sem, seval, e1]
        (repeat refine .z rfl ?_); refine .text ?_; simp (disch := first | exact dsc | fail) only [go_sem, seval, e13]
        refine ih _ _ ?_
        simp (disch := first | exact dsc | fail) only [go_sem, seval, e1, e2, e3, e10, e12, e13, step1]
        exact ⟨_, app_new⟩
      · (repeat refine .z rfl ?_); refine .text ?_; simp (disch := first | exact dsc | fail) only [go_sem, seval, e13]
        (repeat refine .z rfl ?_); refine .ifT (by simp (disch := first | exact dsc | fail) only [go_sem, seval]) ?_
        (repeat refine .z rfl ?_); refine .text ?_; simp (disch := first | exact dsc | fail) only [go_sem, seval, e12, e13]
        (repeat refine .z rfl ?_); refine .text ?_; simp (disch := first | exact dsc | fail) only [go_sem, seval, e1]
        refine CallK.of (fun R h => circuit_Valid_spec x hvs _ R h) ?_; simp (disch := first | exact dsc | fail) only [go_sem, seval]
        (repeat refine .z rfl ?_); refine .ifT (by simp (disch := first | exact dsc | fail) only [go_sem, seval]) ?_
        (repeat refine .z rfl ?_); refine .text ?_; simp (disch := first | exact dsc | fail) only [go_sem, seval, e1]
        refine CallK.of (fun R h => optimize_Dead_spec x hvs.ok _ R h) ?_; simp (disch := first | exact dsc | fail) only [go_sem, seval, e1]
        (repeat refine .z rfl ?_); refine .text ?_; simp (disch := first | exact dsc | fail) only [go_sem, seval, e13]
        refine ih _ _ ?_
        simp (disch := first | exact dsc | fail) only [go_sem, seval, e1, e2, e3, e10, e12, e13, step1]
        exact ⟨_, app_new⟩
      · omega
end walks
end Go.Proofs.Ytjnbifkojpfdgaa

/-
  The circuit that the reference makes of an arbitrary one.
-/
namespace Go.Proofs.Ytjnbifkojpfdgaa
open Go Go.AL

/-- How many gates of a raw layer are used. -/
def mdM (c : Circ) (i : Nat) : Nat := if i < c.layers.length then min (nth c.layers i).length 6 else 0
def mdR (c : Circ) (i : Nat) (n : Int) : List Gate := if mdM c i = 0 then [⟨0, 0, 0#64, 1#64, 0#64, 0#64⟩] else tab (fun k => mkG (nth (nth c.layers i) k) n) (mdM c i)
def mdI (c : Circ) : Int := 1 + c.inputs % 256 % 6
def mdL (c : Circ) : Nat → List Gate
  | 0 => mdR c 0 (mdI c)
  | i + 1 => mdR c (i + 1) ((mdL c i).length : Int)
def mdW (c : Circ) (i : Nat) : Int := if i = 0 then mdI c else ((mdL c (i - 1)).length : Int)
theorem mdL_eq (c : Circ) (i : Nat) : mdL c i = mdR c i (mdW c i) := by cases i <;> rfl
def mdN (c : Circ) : Nat := max 1 (min c.layers.length 4)
def made (c : Circ) : Circ := ⟨mdI c, tab (mdL c) (mdN c), c.sums % 256 % (mdW c (mdN c) + 1)⟩

theorem mdR_len {c : Circ} {i : Nat} {n : Int} : 1 ≤ (mdR c i n).length ∧ (mdR c i n).length ≤ 6 := by
  unfold mdR
  split
  · simp
  · rw [tab_len]
    have : mdM c i ≤ 6 := by unfold mdM; split <;> omega
    omega
theorem mdL_len {c : Circ} {i : Nat} : 1 ≤ (mdL c i).length ∧ (mdL c i).length ≤ 6 := by rw [mdL_eq]; exact mdR_len
theorem mdW_pos {c : Circ} {i : Nat} : 1 ≤ mdW c i ∧ mdW c i ≤ 6 := by
  unfold mdW
  split
  · unfold mdI; omega
  · have := mdL_len (c := c) (i := i - 1); omega

/-- The memory while the circuit is made. -/
def mH (H : Hp) (c : Circ) (ls : List (List Gate)) (k : Nat) : Hp :=
  ((((H.new (.cells (cc c))).new (.cells [.p (i64 4), .p (i64 6)])).new (.cells [.p (i64 0), .p (.sl true 1 []), .p (i64 0)])).new (.cells [.p (i64 (mdI c)), .sl (H.n + 4) k 1 (pl (sle 6 gate) ls), .p (i64 0)])).new (.tail k)
theorem acells_two {i s : Int} : acells (.p (.agg [i64 i, i64 s])) = some [.p (i64 i), .p (i64 s)] := rfl
attribute [go_sem] acells_two

section walks
variable {G : Globs}

set_option maxHeartbeats 8000000 in
theorem R16_Made_spec (c : Circ) (hl : c.layers.length ≤ 9223372036854775807) (hr : ∀ i, i < c.layers.length → (nth c.layers i).length ≤ 9223372036854775807) (H : Hp) (R : AV → Hp → Prop) (h : R (.p (circ (made c))) H) :
    ACall Try.prog G 31 [.p (circ c), .p (.agg [i64 4, i64 6])] H R := by
  refine ACall.of_run (raw := []) Try.func31 rfl Try.ntmps31 (by simp) fun hbel => ?_
  have hmi : mdI c = 1 + c.inputs % 256 % 6 := rfl
  (repeat refine .z rfl ?_); refine .text ?_; simp (disch := first | exact dsc | fail) only [go_sem, seval]
  (repeat refine .z rfl ?_); refine .text ?_; simp (disch := first | exact dsc | fail) only [go_sem, seval, ← hmi]
  (repeat refine .z rfl ?_); refine .ownC (H.n+3) 1 (by simp (disch := first | exact dsc | fail) only [go_sem, seval]; rfl) (by rfl) ?_; simp (disch := first | exact dsc | fail) only [go_sem, seval, List.set_cons_zero, List.set_cons_succ]
  (repeat refine .z rfl ?_); refine .text ?_; simp (disch := first | exact dsc | fail) only [go_sem, seval]
  (repeat refine .z rfl ?_); refine .text ?_; simp (disch := first | exact dsc | fail) only [go_sem, seval]
  repeat refine .z rfl ?_
  refine .count (fun k env H' => env 2 = .ptr H.n 0 ∧ env 3 = .ptr (H.n+1) 0 ∧ env 4 = .ptr (H.n+2) 0 ∧ env 5 = .ptr (H.n+3) 0 ∧ env 6 = .p (i64 (mdW c k)) ∧ env 7 = .p (i64 k) ∧ ∃ T, H' = app (mH H c (tab (mdL c) k) k) T) 0 (mdN c) (by omega) ?_ ?_ ?_
  · simp (disch := first | exact dsc | fail) only [go_sem, seval]
    exact ⟨rfl, [], rfl⟩
  · intro env H' ⟨e2, e3, e4, e5, e6, e7, T, eH⟩
    subst eH
    have hw := mdW_pos (c := c) (i := mdN c)
    have hn : mdN c = max 1 (min c.layers.length 4) := rfl
    have hmx : max 1 (min ((c.layers.length : Nat) : Int) 4) = (mdN c : Int) := by rw [hn]; omega
    (repeat refine .z rfl ?_); refine .text ?_; simp (disch := first | exact dsc | fail) only [go_sem, seval, e2, e3, e7, mH, hmx]
    (repeat refine .z rfl ?_); refine .ifF (by simp (disch := first | exact dsc | fail) only [go_sem, seval]) ?_
    (repeat refine .z rfl ?_); refine .text ?_; simp (disch := first | exact dsc | fail) only [go_sem, seval, e2, e5, e6]
    (repeat refine .z rfl ?_); refine .text ?_; simp (disch := first | exact dsc | fail) only [go_sem, seval, e4, e5]
    (repeat refine .z rfl ?_); refine .rt Try.func31 (by rw [Try.results31]) (hx := by simp (disch := first | exact dsc | fail) only [go_sem, seval, e4]; rfl) (hR := ?_); simp (disch := first | exact dsc | fail) only [go_sem, seval, e4]
    exact h
  · intro k env H' _ hk ⟨e2, e3, e4, e5, e6, e7, T, eH⟩ ih
    subst eH
    have hw := mdW_pos (c := c) (i := k)
    have hn : mdN c = max 1 (min c.layers.length 4) := rfl
    have hmx : max 1 (min ((c.layers.length : Nat) : Int) 4) = (mdN c : Int) := by rw [hn]; omega
    have hm6 : mdM c k ≤ 6 := by unfold mdM; split <;> omega
    (repeat refine .z rfl ?_); refine .text ?_; simp (disch := first | exact dsc | fail) only [go_sem, seval, e2, e3, e7, mH, hmx]
    (repeat refine .z rfl ?_); refine .ifT (by simp (disch := first | exact dsc | fail) only [go_sem, seval]) ?_
    (repeat refine .z rfl ?_); refine .text ?_; simp (disch := first | exact dsc | fail) only [go_sem, seval]
    (repeat refine .z rfl ?_); refine .own 8 (by simp (disch := first | exact dsc | fail) only [go_sem, seval]; rfl) ?_
    (repeat refine .z rfl ?_); refine .text ?_; simp (disch := first | exact dsc | fail) only [go_sem, seval]
    repeat refine .z rfl ?_
    refine .count (fun i env H' => env 2 = .ptr H.n 0 ∧ env 3 = .ptr (H.n+1) 0 ∧ env 4 = .ptr (H.n+2) 0 ∧ env 5 = .ptr (H.n+3) 0 ∧ env 6 = .p (i64 (mdW c k)) ∧ env 7 = .p (i64 k) ∧ env 8 = .sl (H.n+5+T.length) i 6 (pl gate (tab (fun j => mkG (nth (nth c.layers k) j) (mdW c k)) i)) ∧ env 9 = .p (i64 i) ∧ H' = (app (mH H c (tab (mdL c) k) k) T).new (.tail i)) 0 (mdM c k) (by omega) ?_ ?_ ?_
    · simp (disch := first | exact dsc | fail) only [go_sem, seval, e2, e3, e4, e5, e6, e7, mH]
      rfl
    · intro env H' ⟨e2, e3, e4, e5, e6, e7, e8, e9, eH⟩
      subst eH
      have hmm : mdM c k = if k < c.layers.length then min (nth c.layers k).length 6 else 0 := rfl
      have hL := mdL_eq c k
      have hll := mdL_len (c := c) (i := k)
      have hWs : mdW c (k + 1) = ((mdL c k).length : Int) := rfl
      by_cases hkl : k < c.layers.length
      · rw [if_pos hkl] at hmm
        have hrk := hr k hkl
        by_cases h2 : mdM c k < (nth c.layers k).length
        · have h6 : mdM c k = 6 := by omega
          (repeat refine .z rfl ?_); refine .text ?_; simp (disch := first | exact dsc | fail) only [go_sem, seval, e2, e3, e4, e5, e6, e7, e9, mH]
          (repeat refine .z rfl ?_); refine .ifF (by simp (disch := first | exact dsc | fail) only [go_sem, seval]) ?_
          (repeat refine .z rfl ?_); refine .text ?_; simp (disch := first | exact dsc | fail) only [go_sem, seval, e8]
          (repeat refine .z rfl ?_); refine .ifB (by simp (disch := first | exact dsc | fail) only [go_sem, seval]; rfl) (fun hz => ?_) (fun hz => ?_)
          · cases hz
          · have h0 : ¬ mdM c k = 0 := by omega
            have hLL : mdL c k = tab (fun j => mkG (nth (nth c.layers k) j) (mdW c k)) (mdM c k) := by rw [hL, mdR, if_neg h0]
            refine .skip ?_
            (repeat refine .z rfl ?_); refine .text ?_; simp (disch := first | exact dsc | fail) only [go_sem, seval, e2, e3, e4, e5, e6, e7, e8]
            (repeat refine .z rfl ?_); refine .text ?_; simp (disch := first | exact dsc | fail) only [go_sem, seval, e8]
            (repeat refine .z rfl ?_); refine .text ?_; simp (disch := first | exact dsc | fail) only [go_sem, seval, e2, e3, e4, e5, e6, e7]
            refine ih _ _ ?_
            simp (disch := first | exact dsc | fail) only [go_sem, seval, e2, e3, e4, e5, e6, e7, mH, tab_succ, hWs, hLL]
            first | exact ⟨rfl, _, app_new⟩ | exact ⟨_, app_new⟩
        · skip
          (repeat refine .z rfl ?_); refine .text ?_; simp (disch := first | exact dsc | fail) only [go_sem, seval, e2, e3, e4, e5, e6, e7, e9, mH]
          (repeat refine .z rfl ?_); refine .ifF (by simp (disch := first | exact dsc | fail) only [go_sem, seval]) ?_
          (repeat refine .z rfl ?_); refine .text ?_; simp (disch := first | exact dsc | fail) only [go_sem, seval, e8]
          (repeat refine .z rfl ?_); refine .ifB (by simp (disch := first | exact dsc | fail) only [go_sem, seval]; rfl) (fun hz => ?_) (fun hz => ?_)
          · have h0 : mdM c k = 0 := by first | omega | (have := eq_of_beq hz; omega)
            have hLL : mdL c k = [⟨0, 0, 0#64, 1#64, 0#64, 0#64⟩] := by rw [hL, mdR, if_pos h0]
            rw [h0] at e8 ⊢
            (repeat refine .z rfl ?_); refine .text ?_; simp (disch := first | exact dsc | fail) only [go_sem, seval, e8, tab_zero]
            (repeat refine .z rfl ?_); refine .text ?_; simp (disch := first | exact dsc | fail) only [go_sem, seval, e2, e3, e4, e5, e6, e7]
            (repeat refine .z rfl ?_); refine .text ?_; simp (disch := first | exact dsc | fail) only [go_sem, seval]
            (repeat refine .z rfl ?_); refine .text ?_; simp (disch := first | exact dsc | fail) only [go_sem, seval, e2, e3, e4, e5, e6, e7]
            refine ih _ _ ?_
            simp (disch := first | exact dsc | fail) only [go_sem, seval, e2, e3, e4, e5, e6, e7, mH, tab_succ, hWs, hLL]
            first | exact ⟨rfl, _, app_new⟩ | exact ⟨_, app_new⟩
          · have h0 : ¬ mdM c k = 0 := fun e => by first | (rw [e] at hz; simp at hz; done) | cases hz
            have hLL : mdL c k = tab (fun j => mkG (nth (nth c.layers k) j) (mdW c k)) (mdM c k) := by rw [hL, mdR, if_neg h0]
            refine .skip ?_
            (repeat refine .z rfl ?_); refine .text ?_; simp (disch := first | exact dsc | fail) only [go_sem, seval, e2, e3, e4, e5, e6, e7, e8]
            (repeat refine .z rfl ?_); refine .text ?_; simp (disch := first | exact dsc | fail) only [go_sem, seval, e8]
            (repeat refine .z rfl ?_); refine .text ?_; simp (disch := first | exact dsc | fail) only [go_sem, seval, e2, e3, e4, e5, e6, e7]
            refine ih _ _ ?_
            simp (disch := first | exact dsc | fail) only [go_sem, seval, e2, e3, e4, e5, e6, e7, mH, tab_succ, hWs, hLL]
            first | exact ⟨rfl, _, app_new⟩ | exact ⟨_, app_new⟩
      · skip
        (repeat refine .z rfl ?_); refine .text ?_; simp (disch := first | exact dsc | fail) only [go_sem, seval, e2, e3, e4, e5, e6, e7, e9, mH]
        (repeat refine .z rfl ?_); refine .ifF (by simp (disch := first | exact dsc | fail) only [go_sem, seval]) ?_
        (repeat refine .z rfl ?_); refine .text ?_; simp (disch := first | exact dsc | fail) only [go_sem, seval, e8]
        (repeat refine .z rfl ?_); refine .ifB (by simp (disch := first | exact dsc | fail) only [go_sem, seval]; rfl) (fun hz => ?_) (fun hz => ?_)
        · have h0 : mdM c k = 0 := by first | omega | (have := eq_of_beq hz; omega)
          have hLL : mdL c k = [⟨0, 0, 0#64, 1#64, 0#64, 0#64⟩] := by rw [hL, mdR, if_pos h0]
          rw [h0] at e8 ⊢
          (repeat refine .z rfl ?_); refine .text ?_; simp (disch := first | exact dsc | fail) only [go_sem, seval, e8, tab_zero]
          (repeat refine .z rfl ?_); refine .text ?_; simp (disch := first | exact dsc | fail) only [go_sem, seval, e2, e3, e4, e5, e6, e7]
          (repeat refine .z rfl ?_); refine .text ?_; simp (disch := first | exact dsc | fail) only [go_sem, seval]
          (repeat refine .z rfl ?_); refine .text ?_; simp (disch := first | exact dsc | fail) only [go_sem, seval, e2, e3, e4, e5, e6, e7]
          refine ih _ _ ?_
          simp (disch := first | exact dsc | fail) only [go_sem, seval, e2, e3, e4, e5, e6, e7, mH, tab_succ, hWs, hLL]
          first | exact ⟨rfl, _, app_new⟩ | exact ⟨_, app_new⟩
        · have h0 : ¬ mdM c k = 0 := fun e => by first | (rw [e] at hz; simp at hz; done) | cases hz
          have hLL : mdL c k = tab (fun j => mkG (nth (nth c.layers k) j) (mdW c k)) (mdM c k) := by rw [hL, mdR, if_neg h0]
          refine .skip ?_
          (repeat refine .z rfl ?_); refine .text ?_; simp (disch := first | exact dsc | fail) only [go_sem, seval, e2, e3, e4, e5, e6, e7, e8]
          (repeat refine .z rfl ?_); refine .text ?_; simp (disch := first | exact dsc | fail) only [go_sem, seval, e8]
          (repeat refine .z rfl ?_); refine .text ?_; simp (disch := first | exact dsc | fail) only [go_sem, seval, e2, e3, e4, e5, e6, e7]
          refine ih _ _ ?_
          simp (disch := first | exact dsc | fail) only [go_sem, seval, e2, e3, e4, e5, e6, e7, mH, tab_succ, hWs, hLL]
          first | exact ⟨rfl, _, app_new⟩ | exact ⟨_, app_new⟩
    · intro i env H' _ hi ⟨e2, e3, e4, e5, e6, e7, e8, e9, eH⟩ ih
      subst eH
      have hmm : mdM c k = if k < c.layers.length then min (nth c.layers k).length 6 else 0 := rfl
      have hkl : k < c.layers.length := by
        by_cases h : k < c.layers.length
        · exact h
        · rw [if_neg h] at hmm; omega
      rw [if_pos hkl] at hmm
      have hrk := hr k hkl
      (repeat refine .z rfl ?_); refine .text ?_; simp (disch := first | exact dsc | fail) only [go_sem, seval, e2, e3, e4, e5, e6, e7, e9, mH]
      (repeat refine .z rfl ?_); refine .ifT (by simp (disch := first | exact dsc | fail) only [go_sem, seval]) ?_
      (repeat refine .z rfl ?_); refine .text ?_; simp (disch := first | exact dsc | fail) only [go_sem, seval, e2, e3, e4, e5, e6, e7, e8, e9]
      refine CallK.of (fun R h => R16_MadeGate_spec _ _ (by omega) _ R h) ?_; simp (disch := first | exact dsc | fail) only [go_sem, seval]
      (repeat refine .z rfl ?_); refine .text ?_; simp (disch := first | exact dsc | fail) only [go_sem, seval, e9]
      refine ih _ _ ?_
      simp (disch := first | exact dsc | fail) only [go_sem, seval, e2, e3, e4, e5, e6, e7, e8, e9, mH, tab_succ]
end walks
end Go.Proofs.Ytjnbifkojpfdgaa

/-
  The columns that the reference makes of arbitrary ones.
-/
namespace Go.Proofs.Ytjnbifkojpfdgaa
open Go Go.AL

/-- How many values of a raw column are used. -/
def clM (raw : List (List U)) (N i : Nat) : Nat := if i < raw.length then min (nth raw i).length N else 0
def clTo (raw : List (List U)) (N i m : Nat) : List U := tab (fun t => if t < m then rRed (nth (nth raw i) t) else 0#64) N
def clR (raw : List (List U)) (N i : Nat) : List U := clTo raw N i (clM raw N i)
def columns (raw : List (List U)) (n N : Nat) : List (List U) := tab (clR raw N) n
theorem clTo_zero {raw : List (List U)} {N i : Nat} : clTo raw N i 0 = List.replicate N 0#64 := nth_ext (by simp [clTo, tab]) fun j hj => by
  rw [clTo, tab_len] at hj
  rw [clTo, nth_tab hj, if_neg (by omega), nth_replicate hj]
theorem clTo_len {raw : List (List U)} {N i m : Nat} : (clTo raw N i m).length = N := tab_len
theorem clTo_succ {raw : List (List U)} {N i m : Nat} (h : m < N) : (clTo raw N i m).set m (rRed (nth (nth raw i) m)) = clTo raw N i (m + 1) := nth_ext (by simp [clTo, tab]) fun j hj => by
  rw [List.length_set, clTo_len] at hj
  by_cases e : m = j
  · subst e; rw [nth_set_eq rfl (by rw [clTo_len]; omega), clTo, nth_tab hj, if_pos (by omega)]
  · rw [nth_set_ne e, clTo, clTo, nth_tab hj, nth_tab hj]
    by_cases e2 : j < m
    · rw [if_pos e2, if_pos (by omega)]
    · rw [if_neg e2, if_neg (by omega)]

section walks
variable {G : Globs}

set_option maxHeartbeats 8000000 in
theorem R16_Columns_spec (raw : List (List U)) (hl : raw.length ≤ 9223372036854775807) (hr : ∀ i, i < raw.length → (nth raw i).length ≤ 9223372036854775807) (n lg : Nat) (hn : n ≤ 1000) (hlg : lg ≤ 2) (H : Hp) (R : AV → Hp → Prop) (h : R (.p (.sl false 1 (pl (sle 1 w64) (columns raw n (2 ^ lg))))) H) :
    ACall Try.prog G 32 [.p (.sl false 1 (pl (sle 1 w64) raw)), .p (i64 n), .p (i64 lg)] H R := by
  refine ACall.of_run (raw := []) Try.func32 rfl Try.ntmps32 (by simp) fun hbel => ?_
  obtain ⟨N, hN⟩ : ∃ N, 2 ^ lg = N := ⟨_, rfl⟩
  have hNb : 1 ≤ N ∧ N ≤ 4 := by
    rcases lg with _ | _ | _ | lg
    · subst hN; decide
    · subst hN; decide
    · subst hN; decide
    · omega
  have hsh : IntKind.i64.wrap (1 * 2 ^ lg) = (N : Int) := by
    rcases lg with _ | _ | _ | lg
    · subst hN; decide
    · subst hN; decide
    · subst hN; decide
    · omega
  rw [hN] at h
  (repeat refine .z rfl ?_); refine .text ?_; simp (disch := first | exact dsc | fail) only [go_sem, seval]
  (repeat refine .z rfl ?_); refine .text ?_; simp (disch := first | exact dsc | fail) only [go_sem, seval]
  (repeat refine .z rfl ?_); refine .own 7 (by simp (disch := first | exact dsc | fail) only [go_sem, seval]; rfl) ?_
  (repeat refine .z rfl ?_); refine .text ?_; simp (disch := first | exact dsc | fail) only [go_sem, seval]
  repeat refine .z rfl ?_
  refine .count (fun i env H' => env 0 = .p (.sl false 1 (pl (sle 1 w64) raw)) ∧ env 1 = .p (i64 n) ∧ env 2 = .p (i64 lg) ∧ env 7 = .sl H.n i 1 (pl (sle 1 w64) (tab (clR raw N) i)) ∧ env 8 = .p (i64 i) ∧ ∃ T, H' = app (H.new (.tail i)) T) 0 n (by omega) ?_ ?_ ?_
  · simp (disch := first | exact dsc | fail) only [go_sem, seval]
    exact ⟨rfl, [], rfl⟩
  · intro env H' ⟨e0, e1, e2, e7, e8, T, eH⟩
    subst eH
    (repeat refine .z rfl ?_); refine .text ?_; simp (disch := first | exact dsc | fail) only [go_sem, seval, e1, e8]
    (repeat refine .z rfl ?_); refine .ifF (by simp (disch := first | exact dsc | fail) only [go_sem, seval]) ?_
    (repeat refine .z rfl ?_); refine .text ?_; simp (disch := first | exact dsc | fail) only [go_sem, seval, e7]
    (repeat refine .z rfl ?_); refine .rt Try.func32 (by rw [Try.results32]) (hR := ?_); simp (disch := first | exact dsc | fail) only [go_sem, seval]
    exact h
  · intro i env H' _ hi ⟨e0, e1, e2, e7, e8, T, eH⟩ ih
    subst eH
    have hcm : clM raw N i = if i < raw.length then min (nth raw i).length N else 0 := rfl
    have hcN : clM raw N i ≤ N := by rw [hcm]; split <;> omega
    (repeat refine .z rfl ?_); refine .text ?_; simp (disch := first | exact dsc | fail) only [go_sem, seval, e1, e8]
    (repeat refine .z rfl ?_); refine .ifT (by simp (disch := first | exact dsc | fail) only [go_sem, seval]) ?_
    (repeat refine .z rfl ?_); refine .text ?_; simp (disch := first | exact dsc | fail) only [go_sem, seval, e2, hsh]
    (repeat refine .z rfl ?_); refine .text ?_; simp (disch := first | exact dsc | fail) only [go_sem, seval]
    repeat refine .z rfl ?_
    refine .count (fun m env H' => env 0 = .p (.sl false 1 (pl (sle 1 w64) raw)) ∧ env 1 = .p (i64 n) ∧ env 2 = .p (i64 lg) ∧ env 7 = .sl H.n i 1 (pl (sle 1 w64) (tab (clR raw N) i)) ∧ env 8 = .p (i64 i) ∧ env 9 = .ref (H.n+1+T.length) 0 N 1 ∧ env 10 = .p (i64 m) ∧ H' = (app (H.new (.tail i)) T).new (.cells (cl w64 (clTo raw N i m)))) 0 (clM raw N i) (by omega) ?_ ?_ ?_
    · simp (disch := first | exact dsc | fail) only [go_sem, seval, e0, e1, e2, e7, e8, clTo_zero]
    · intro env H' ⟨e0, e1, e2, e7, e8, e9, e10, eH⟩
      subst eH
      have hcl : (clTo raw N i (clM raw N i)).length = N := clTo_len
      have htk : (clTo raw N i (clM raw N i)).take N = clTo raw N i (clM raw N i) := List.take_of_length_le (by rw [hcl]; exact Nat.le_refl _)
      have hcr : clTo raw N i (clM raw N i) = clR raw N i := rfl
      by_cases hil : i < raw.length
      · rw [if_pos hil] at hcm
        have hri := hr i hil
        by_cases h2 : clM raw N i < (nth raw i).length
        · (repeat refine .z rfl ?_); refine .text ?_; simp (disch := first | exact dsc | fail) only [go_sem, seval, e0, e8, e9, e10]
          (repeat refine .z rfl ?_); refine .ifF (by simp (disch := first | exact dsc | fail) only [go_sem, seval]) ?_
          (repeat refine .z rfl ?_); refine .frzS 9 (by simp (disch := first | exact dsc | fail) only [go_sem, seval, e9, htk]; rfl) (by simp (disch := first | exact dsc | fail) only [go_sem, seval, e9, htk] <;> rfl) (fun _ => rfl) (by first | exact dsc | fail) ?_; (try simp (disch := first | exact dsc | fail) only [go_sem, seval, e9, htk])
          (repeat refine .z rfl ?_); refine .text ?_; simp (disch := first | exact dsc | fail) only [go_sem, seval, e7]
          (repeat refine .z rfl ?_); refine .text ?_; simp (disch := first | exact dsc | fail) only [go_sem, seval, e8]
          refine ih _ _ ?_
          simp (disch := first | exact dsc | fail) only [go_sem, seval, e0, e1, e2, e7, e8, tab_succ, hcr]
          exact ⟨_, app_new⟩
        · (repeat refine .z rfl ?_); refine .text ?_; simp (disch := first | exact dsc | fail) only [go_sem, seval, e0, e8, e9, e10]
          (repeat refine .z rfl ?_); refine .ifF (by simp (disch := first | exact dsc | fail) only [go_sem, seval]) ?_
          (repeat refine .z rfl ?_); refine .frzS 9 (by simp (disch := first | exact dsc | fail) only [go_sem, seval, e9, htk]; rfl) (by simp (disch := first | exact dsc | fail) only [go_sem, seval, e9, htk] <;> rfl) (fun _ => rfl) (by first | exact dsc | fail) ?_; (try simp (disch := first | exact dsc | fail) only [go_sem, seval, e9, htk])
          (repeat refine .z rfl ?_); refine .text ?_; simp (disch := first | exact dsc | fail) only [go_sem, seval, e7]
          (repeat refine .z rfl ?_); refine .text ?_; simp (disch := first | exact dsc | fail) only [go_sem, seval, e8]
          refine ih _ _ ?_
          simp (disch := first | exact dsc | fail) only [go_sem, seval, e0, e1, e2, e7, e8, tab_succ, hcr]
          exact ⟨_, app_new⟩
      · (repeat refine .z rfl ?_); refine .text ?_; simp (disch := first | exact dsc | fail) only [go_sem, seval, e0, e8, e9, e10]
        (repeat refine .z rfl ?_); refine .ifF (by simp (disch := first | exact dsc | fail) only [go_sem, seval]) ?_
        (repeat refine .z rfl ?_); refine .frzS 9 (by simp (disch := first | exact dsc | fail) only [go_sem, seval, e9, htk]; rfl) (by simp (disch := first | exact dsc | fail) only [go_sem, seval, e9, htk] <;> rfl) (fun _ => rfl) (by first | exact dsc | fail) ?_; (try simp (disch := first | exact dsc | fail) only [go_sem, seval, e9, htk])
        (repeat refine .z rfl ?_); refine .text ?_; simp (disch := first | exact dsc | fail) only [go_sem, seval, e7]
        (repeat refine .z rfl ?_); refine .text ?_; simp (disch := first | exact dsc | fail) only [go_sem, seval, e8]
        refine ih _ _ ?_
        simp (disch := first | exact dsc | fail) only [go_sem, seval, e0, e1, e2, e7, e8, tab_succ, hcr]
        exact ⟨_, app_new⟩
    · intro m env H' _ hm ⟨e0, e1, e2, e7, e8, e9, e10, eH⟩ ih
      subst eH
      have hil : i < raw.length := by
        by_cases h : i < raw.length
        · exact h
        · rw [if_neg h] at hcm; omega
      rw [if_pos hil] at hcm
      have hri := hr i hil
      have hcl : (clTo raw N i m).length = N := clTo_len
      have hss := clTo_succ (raw := raw) (i := i) (show m < N by omega)
      (repeat refine .z rfl ?_); refine .text ?_; simp (disch := first | exact dsc | fail) only [go_sem, seval, e0, e8, e9, e10]
      (repeat refine .z rfl ?_); refine .ifT (by simp (disch := first | exact dsc | fail) only [go_sem, seval]) ?_
      (repeat refine .z rfl ?_); refine .text ?_; simp (disch := first | exact dsc | fail) only [go_sem, seval, e0, e8, e9, e10]
      refine CallK.of (fun R h => rRed_spec _ _ R h) ?_; simp (disch := first | exact dsc | fail) only [go_sem, seval, e9, e10, hss]
      (repeat refine .z rfl ?_); refine .text ?_; simp (disch := first | exact dsc | fail) only [go_sem, seval, e10]
      refine ih _ _ ?_
      simp (disch := first | exact dsc | fail) only [go_sem, seval, e0, e1, e2, e7, e8, e9, e10]
end walks
end Go.Proofs.Ytjnbifkojpfdgaa

/-
  Arithmetic modulo the prime: what both kinds come to.
-/
namespace Go.Proofs.Ytjnbifkojpfdgaa
open Go Go.AL

theorem valid_iff {a : U} : valid a = true ↔ a.toNat < 18446744069414584321 := by
  unfold valid
  rw [decide_eq_true_eq, BitVec.lt_def]
  rfl
theorem rRed_nat {x : U} : (rRed x).toNat = x.toNat % 18446744069414584321 := by
  unfold rRed
  rw [BitVec.toNat_umod]
  rfl
theorem rRed_valid {x : U} : valid (rRed x) = true := by
  rw [valid_iff, rRed_nat]; omega
theorem fRed_nat {x : U} : (fRed x).toNat = x.toNat % 18446744069414584321 := by
  unfold fRed
  have hx := x.isLt
  have hp : (18446744069414584321#64 : U).toNat = 18446744069414584321 := rfl
  split
  · rename_i h
    rw [BitVec.le_def, hp] at h
    rw [BitVec.toNat_sub_of_le (by rw [BitVec.le_def, hp]; exact h), hp]
    omega
  · rename_i h
    rw [BitVec.le_def, hp] at h
    omega
theorem rAdd_nat {a b : U} (ha : valid a = true) (hb : valid b = true) : (rAdd a b).toNat = (a.toNat + b.toNat) % 18446744069414584321 := by
  rw [valid_iff] at ha hb
  have hp : (18446744069414584321#64 : U).toNat = 18446744069414584321 := rfl
  have hs : (18446744069414584321#64 - b).toNat = 18446744069414584321 - b.toNat := by
    rw [BitVec.toNat_sub_of_le (by rw [BitVec.le_def, hp]; omega), hp]
  unfold rAdd
  split
  · rename_i h
    rw [BitVec.le_def, hs] at h
    rw [BitVec.toNat_sub_of_le (by rw [BitVec.le_def, hs]; exact h), hs]
    omega
  · rename_i h
    rw [BitVec.le_def, hs] at h
    rw [BitVec.toNat_add]
    omega
theorem fAdd_nat {a b : U} (ha : valid a = true) (hb : valid b = true) : (fAdd a b).toNat = (a.toNat + b.toNat) % 18446744069414584321 := by
  rw [valid_iff] at ha hb
  have hp : (18446744069414584321#64 : U).toNat = 18446744069414584321 := rfl
  unfold fAdd
  split
  · rename_i h
    rw [BitVec.le_def, hp, BitVec.toNat_add] at h
    rw [BitVec.toNat_sub, hp, BitVec.toNat_add]
    omega
  · rename_i h
    rw [BitVec.le_def, hp, BitVec.toNat_add] at h
    rw [BitVec.toNat_add]
    omega
theorem fSub_nat {a b : U} (ha : valid a = true) (hb : valid b = true) : (fSub a b).toNat = (a.toNat + (18446744069414584321 - b.toNat)) % 18446744069414584321 := by
  rw [valid_iff] at ha hb
  have hp : (18446744069414584321#64 : U).toNat = 18446744069414584321 := rfl
  unfold fSub
  split
  · rename_i h
    rw [BitVec.toNat_add, hp, BitVec.toNat_sub]
    omega
  · rename_i h
    rw [BitVec.toNat_sub]
    omega
theorem rShift_nat {a : U} (ha : valid a = true) : (rShift a).toNat = a.toNat * 4294967296 % 18446744069414584321 := by
  rw [valid_iff] at ha
  have h1 : (a % 4294967296#64 * 4294967296#64).toNat = a.toNat % 4294967296 * 4294967296 := by
    rw [BitVec.toNat_mul, BitVec.toNat_umod]
    show a.toNat % 4294967296 * 4294967296 % 2 ^ 64 = _
    omega
  have h2 : (a / 4294967296#64 * 4294967295#64).toNat = a.toNat / 4294967296 * 4294967295 := by
    rw [BitVec.toNat_mul, BitVec.toNat_udiv]
    show a.toNat / 4294967296 * 4294967295 % 2 ^ 64 = _
    omega
  unfold rShift
  rw [rAdd_nat rRed_valid rRed_valid, rRed_nat, rRed_nat, h1, h2]
  omega
theorem nat_valid {a : U} {n : Nat} (h : a.toNat = n % 18446744069414584321) : valid a = true := by
  rw [valid_iff, h]; omega
end Go.Proofs.Ytjnbifkojpfdgaa

/-
  Products modulo the prime: the two kinds agree.
-/
namespace Go.Proofs.Ytjnbifkojpfdgaa
open Go Go.AL

theorem mul_lt32 {x y : Nat} (hx : x < 4294967296) (hy : y < 4294967296) : x * y ≤ 4294967295 * 4294967295 := Nat.mul_le_mul (by omega) (by omega)

theorem rHalf_nat {a b : U} (ha : valid a = true) (hb : b.toNat < 4294967296) : (rHalf a b).toNat = a.toNat * b.toNat % 18446744069414584321 := by
  rw [valid_iff] at ha
  have h1 : (a % 4294967296#64 * b).toNat = a.toNat % 4294967296 * b.toNat := by
    rw [BitVec.toNat_mul, BitVec.toNat_umod]
    show a.toNat % 4294967296 * b.toNat % 2 ^ 64 = _
    have := mul_lt32 (x := a.toNat % 4294967296) (by omega) hb
    omega
  have h2 : (a / 4294967296#64 * b).toNat = a.toNat / 4294967296 * b.toNat := by
    rw [BitVec.toNat_mul, BitVec.toNat_udiv]
    show a.toNat / 4294967296 * b.toNat % 2 ^ 64 = _
    have := mul_lt32 (x := a.toNat / 4294967296) (by omega) hb
    omega
  have h3 : a.toNat * b.toNat = a.toNat / 4294967296 * b.toNat * 4294967296 + a.toNat % 4294967296 * b.toNat := by
    conv => lhs; rw [← Nat.div_add_mod a.toNat 4294967296, Nat.add_mul]
    rw [Nat.mul_comm 4294967296, Nat.mul_right_comm]
  unfold rHalf
  rw [rAdd_nat rRed_valid (nat_valid (rShift_nat rRed_valid)), rRed_nat, rShift_nat rRed_valid, rRed_nat, h1, h2, h3]
  generalize a.toNat / 4294967296 * b.toNat = B
  generalize a.toNat % 4294967296 * b.toNat = A
  omega

theorem rMul_nat {a b : U} (ha : valid a = true) (hb : valid b = true) : (rMul a b).toNat = a.toNat * b.toNat % 18446744069414584321 := by
  have hb' := valid_iff.1 hb
  have l1 : (b % 4294967296#64).toNat = b.toNat % 4294967296 := by rw [BitVec.toNat_umod]; rfl
  have l2 : (b / 4294967296#64).toNat = b.toNat / 4294967296 := by rw [BitVec.toNat_udiv]; rfl
  have e1 := rHalf_nat (b := b % 4294967296#64) ha (by rw [l1]; omega)
  have e2 := rHalf_nat (b := b / 4294967296#64) ha (by rw [l2]; omega)
  rw [l1] at e1
  rw [l2] at e2
  have h3 : a.toNat * b.toNat = a.toNat * (b.toNat / 4294967296) * 4294967296 + a.toNat * (b.toNat % 4294967296) := by
    conv => lhs; rw [← Nat.div_add_mod b.toNat 4294967296, Nat.mul_add]
    rw [Nat.mul_comm 4294967296, Nat.mul_assoc]
  unfold rMul
  rw [rAdd_nat (nat_valid e1) (nat_valid (rShift_nat (nat_valid e2))), e1, rShift_nat (nat_valid e2), e2, h3]
  generalize a.toNat * (b.toNat / 4294967296) = B
  generalize a.toNat * (b.toNat % 4294967296) = A
  omega

theorem mask_nat {x : U} : (x &&& 4294967295#64).toNat = x.toNat % 4294967296 := by
  rw [BitVec.toNat_and]
  exact Nat.and_two_pow_sub_one_eq_mod x.toNat 32
theorem shr_nat {x : U} : (x >>> 32).toNat = x.toNat / 4294967296 := by
  rw [BitVec.toNat_ushiftRight, Nat.shiftRight_eq_div_pow]

theorem mulHi_nat {a b : U} : (mulHi a b).toNat = a.toNat * b.toNat / 18446744073709551616 := by
  have ha := a.isLt
  have hb := b.isLt
  have q00 := mul_lt32 (x := a.toNat % 4294967296) (y := b.toNat % 4294967296) (by omega) (by omega)
  have q10 := mul_lt32 (x := a.toNat / 4294967296) (y := b.toNat % 4294967296) (by omega) (by omega)
  have q01 := mul_lt32 (x := a.toNat % 4294967296) (y := b.toNat / 4294967296) (by omega) (by omega)
  have q11 := mul_lt32 (x := a.toNat / 4294967296) (y := b.toNat / 4294967296) (by omega) (by omega)
  have h3 : a.toNat * b.toNat = a.toNat / 4294967296 * (b.toNat / 4294967296) * 18446744073709551616 + (a.toNat / 4294967296 * (b.toNat % 4294967296) + a.toNat % 4294967296 * (b.toNat / 4294967296)) * 4294967296 + a.toNat % 4294967296 * (b.toNat % 4294967296) := by
    conv => lhs; rw [← Nat.div_add_mod a.toNat 4294967296, ← Nat.div_add_mod b.toNat 4294967296]
    generalize a.toNat / 4294967296 = x1
    generalize a.toNat % 4294967296 = x0
    generalize b.toNat / 4294967296 = y1
    generalize b.toNat % 4294967296 = y0
    rw [Nat.add_mul, Nat.mul_add, Nat.mul_add]
    have e1 : 4294967296 * x1 * (4294967296 * y1) = x1 * y1 * 18446744073709551616 := by
      rw [Nat.mul_mul_mul_comm, Nat.mul_comm]
    have e2 : 4294967296 * x1 * y0 = x1 * y0 * 4294967296 := by rw [Nat.mul_assoc, Nat.mul_comm]
    have e3 : x0 * (4294967296 * y1) = x0 * y1 * 4294967296 := by rw [Nat.mul_left_comm, Nat.mul_comm]
    rw [e1, e2, e3]
    omega
  have t00 : ((a &&& 4294967295#64) * (b &&& 4294967295#64)).toNat = a.toNat % 4294967296 * (b.toNat % 4294967296) := by
    rw [BitVec.toNat_mul, mask_nat, mask_nat]; omega
  have t10 : ((a >>> 32) * (b &&& 4294967295#64)).toNat = a.toNat / 4294967296 * (b.toNat % 4294967296) := by
    rw [BitVec.toNat_mul, mask_nat, shr_nat]; omega
  have t01 : ((a &&& 4294967295#64) * (b >>> 32)).toNat = a.toNat % 4294967296 * (b.toNat / 4294967296) := by
    rw [BitVec.toNat_mul, mask_nat, shr_nat]; omega
  have t11 : ((a >>> 32) * (b >>> 32)).toNat = a.toNat / 4294967296 * (b.toNat / 4294967296) := by
    rw [BitVec.toNat_mul, shr_nat, shr_nat]; omega
  unfold mulHi
  simp only [BitVec.toNat_add, shr_nat, mask_nat, t00, t10, t01, t11]
  rw [h3]
  generalize a.toNat / 4294967296 * (b.toNat / 4294967296) = p11 at *
  generalize a.toNat / 4294967296 * (b.toNat % 4294967296) = p10 at *
  generalize a.toNat % 4294967296 * (b.toNat / 4294967296) = p01 at *
  generalize a.toNat % 4294967296 * (b.toNat % 4294967296) = p00 at *
  omega
end Go.Proofs.Ytjnbifkojpfdgaa

/-
  Sums and products modulo the prime: the program's are the reference's.
-/
namespace Go.Proofs.Ytjnbifkojpfdgaa
open Go Go.AL

theorem fMul_nat {a b : U} (ha : valid a = true) (hb : valid b = true) : (fMul a b).toNat = a.toNat * b.toNat % 18446744069414584321 := by
  have ha' := a.isLt
  have hb' := b.isLt
  have hq : a.toNat * b.toNat ≤ 18446744073709551615 * 18446744073709551615 := Nat.mul_le_mul (by omega) (by omega)
  have hh := mulHi_nat (a := a) (b := b)
  have h1 : (mulHi a b >>> 32).toNat = a.toNat * b.toNat / 18446744073709551616 / 4294967296 := by rw [shr_nat, hh]
  have h0 : ((mulHi a b &&& 4294967295#64) * 4294967295#64).toNat = a.toNat * b.toNat / 18446744073709551616 % 4294967296 * 4294967295 := by
    rw [BitVec.toNat_mul, mask_nat, hh]
    show a.toNat * b.toNat / 18446744073709551616 % 4294967296 * 4294967295 % 2 ^ 64 = _
    omega
  have hl : (a * b).toNat = a.toNat * b.toNat % 18446744073709551616 := by rw [BitVec.toNat_mul]
  have v1 : valid (fRed (a * b)) = true := nat_valid fRed_nat
  have v2 : valid (mulHi a b >>> 32) = true := by rw [valid_iff, h1]; omega
  have v3 : valid (fRed ((mulHi a b &&& 4294967295#64) * 4294967295#64)) = true := nat_valid fRed_nat
  have hs := fSub_nat v1 v2
  unfold fMul
  rw [fAdd_nat (nat_valid hs) v3, hs, fRed_nat, fRed_nat, h1, h0, hl]
  generalize a.toNat * b.toNat = Q at *
  omega

theorem fAdd_eq {a b : U} (ha : valid a = true) (hb : valid b = true) : fAdd a b = rAdd a b := BitVec.eq_of_toNat_eq (by rw [fAdd_nat ha hb, rAdd_nat ha hb])
theorem fMul_eq {a b : U} (ha : valid a = true) (hb : valid b = true) : fMul a b = rMul a b := BitVec.eq_of_toNat_eq (by rw [fMul_nat ha hb, rMul_nat ha hb])
theorem rAdd_valid {a b : U} (ha : valid a = true) (hb : valid b = true) : valid (rAdd a b) = true := nat_valid (rAdd_nat ha hb)
theorem rMul_valid {a b : U} (ha : valid a = true) (hb : valid b = true) : valid (rMul a b) = true := nat_valid (rMul_nat ha hb)
theorem zero_valid : valid 0#64 = true := by decide

/-- The values of a gate are field elements. -/
def fvG (g : Gate) : Prop := valid g.c = true ∧ valid g.a = true ∧ valid g.b = true ∧ valid g.d = true

theorem rMul_zero {a : U} (ha : valid a = true) : rMul 0#64 a = 0#64 := BitVec.eq_of_toNat_eq (by rw [rMul_nat zero_valid ha]; simp)
theorem rAdd_zero {a : U} (ha : valid a = true) : rAdd a 0#64 = a := BitVec.eq_of_toNat_eq (by rw [rAdd_nat ha zero_valid]; have := valid_iff.1 ha; simp; omega)
end Go.Proofs.Ytjnbifkojpfdgaa

/-
  Folding: the program's gates are the reference's.
-/
namespace Go.Proofs.Ytjnbifkojpfdgaa
open Go Go.AL

theorem n4_eq (x : Gate) : n4 x = m5 (m4 x) := by
  obtain ⟨l, r, c, a, b, d⟩ := x
  unfold n4 m4 m5
  cases h : usesR (⟨l, r, c, a, b, d⟩ : Gate) with
  | true => simp [h]
  | false =>
    have h2 : usesR (⟨l, 0, c, a, b, d⟩ : Gate) = false := h
    simp [h2]

theorem tail_eq (x : Gate) : n4 (n3 (n2 x)) = m5 (m4 (n3 (m2 x))) := by
  rw [← n4_eq]
  obtain ⟨l, r, c, a, b, d⟩ := x
  by_cases h : (!usesL (⟨l, r, c, a, b, d⟩ : Gate) && usesR (⟨l, r, c, a, b, d⟩ : Gate)) = true
  · rw [n2, m2, if_pos h, if_pos h]
    simp only [usesL, usesR, Bool.and_eq_true, Bool.not_eq_true', Bool.or_eq_false_iff, bne_eq_false_iff_eq, Bool.or_eq_true, bne_iff_ne, ne_eq] at h
    obtain ⟨⟨hc, ha⟩, hb⟩ := h
    subst hc
    subst ha
    have hb : ¬ b = 0#64 := by rcases hb with hb | hb; exact absurd rfl hb; exact hb
    simp [swp, n3, n4, usesL, usesR, hb]
  · rw [n2, m2, if_neg h, if_neg h]

theorem fv_nth {p : List Gate} (h : ∀ j, j < p.length → fvG (nth p j)) (i : Nat) : fvG (nth p i) := by
  by_cases hi : i < p.length
  · exact h i hi
  · have : nth p i = default := by simp [nth, Nat.le_of_not_lt hi]
    rw [this]
    exact ⟨zero_valid, zero_valid, zero_valid, zero_valid⟩

theorem fvG_mk {l r : Int} {c a b d : U} (hc : valid c = true) (ha : valid a = true) (hb : valid b = true) (hd : valid d = true) : fvG ⟨l, r, c, a, b, d⟩ := ⟨hc, ha, hb, hd⟩

theorem foldL_fg1 {g : Gate} {p : List Gate} (hg : fvG g) (hp : ∀ j, j < p.length → fvG (nth p j)) : foldL g p = fg1 false p g ∧ fvG (foldL g p) := by
  obtain ⟨hc, ha, hb, hd⟩ := hg
  obtain ⟨_, _, _, hv⟩ := fv_nth hp g.l.toNat
  have e1 := fMul_eq hc hv
  have e2 := fMul_eq ha hv
  have e3 := fAdd_eq hb (rMul_valid hc hv)
  have e4 := fAdd_eq hd (rMul_valid ha hv)
  unfold foldL fg1
  cases h : konst (nth p g.l.toNat) with
  | true =>
    simp only [if_true, Bool.not_false, Bool.and_true, e1, e2, e3, e4]
    exact ⟨trivial, fvG_mk zero_valid zero_valid (rAdd_valid hb (rMul_valid hc hv)) (rAdd_valid hd (rMul_valid ha hv))⟩
  | false =>
    simp only [Bool.false_eq_true, if_false, Bool.and_false]
    exact ⟨trivial, hc, ha, hb, hd⟩

theorem foldL_fg2 {g : Gate} {p : List Gate} (hg : fvG g) (hp : ∀ j, j < p.length → fvG (nth p j)) : swp (foldL (swp g) p) = fg2 false p g ∧ fvG (fg2 false p g) := by
  obtain ⟨hc, ha, hb, hd⟩ := hg
  obtain ⟨_, _, _, hv⟩ := fv_nth hp g.r.toNat
  have e1 := fMul_eq hc hv
  have e2 := fMul_eq hb hv
  have e3 := fAdd_eq ha (rMul_valid hc hv)
  have e4 := fAdd_eq hd (rMul_valid hb hv)
  unfold foldL fg2 swp
  cases h : konst (nth p g.r.toNat) with
  | true =>
    simp only [if_true, Bool.not_false, Bool.and_true, h, e1, e2, e3, e4]
    exact ⟨trivial, fvG_mk zero_valid (rAdd_valid ha (rMul_valid hc hv)) zero_valid (rAdd_valid hd (rMul_valid hb hv))⟩
  | false =>
    simp only [Bool.false_eq_true, if_false, Bool.and_false, h]
    exact ⟨trivial, hc, ha, hb, hd⟩

theorem n1_eq {g : Gate} (hg : fvG g) : n1 g = m1 g ∧ fvG (m1 g) := by
  obtain ⟨hc, ha, hb, hd⟩ := hg
  unfold n1 m1
  split
  · rw [fAdd_eq ha hb]
    exact ⟨rfl, fvG_mk hc (rAdd_valid ha hb) zero_valid hd⟩
  · exact ⟨rfl, hc, ha, hb, hd⟩

/-- The program and the reference fold a gate alike. -/
theorem goG_foldG {b : Bool} {p : List Gate} {g : Gate} (hg : fvG g) (hp : ∀ j, j < p.length → fvG (nth p j)) : goG b p g = foldG b p g := by
  unfold goG foldG norm
  cases b with
  | true =>
    have h1 : fg1 true p g = g := by simp [fg1]
    have h2 : fg2 true p g = g := by simp [fg2]
    rw [if_pos rfl, h1, h2, (n1_eq hg).1, tail_eq]
  | false =>
    obtain ⟨e1, v1⟩ := foldL_fg1 hg hp
    rw [e1] at v1
    obtain ⟨e2, v2⟩ := foldL_fg2 v1 hp
    rw [if_neg (by simp), e1, e2, (n1_eq v2).1, tail_eq]
end Go.Proofs.Ytjnbifkojpfdgaa

/-
  Folding a valid circuit: the program and the reference agree, and it stays valid.
-/
namespace Go.Proofs.Ytjnbifkojpfdgaa
open Go Go.AL

theorem fv_swp {x : Gate} (h : fvG x) : fvG (swp x) := ⟨h.1, h.2.2.1, h.2.1, h.2.2.2⟩
theorem fv_n3 {x : Gate} (h : fvG x) : fvG (n3 x) := by unfold n3; split <;> exact ⟨h.1, h.2.1, h.2.2.1, h.2.2.2⟩
theorem fv_m4 {x : Gate} (h : fvG x) : fvG (m4 x) := by unfold m4; split <;> exact ⟨h.1, h.2.1, h.2.2.1, h.2.2.2⟩
theorem fv_m2 {x : Gate} (h : fvG x) : fvG (m2 x) := by
  unfold m2; split
  · exact fvG_mk h.1 h.2.2.1 zero_valid h.2.2.2
  · exact h
theorem fv_m5 {x : Gate} (h : fvG x) : fvG (m5 x) := by
  unfold m5; split
  · exact fv_swp h
  · exact h
theorem fv_foldG {b : Bool} {p : List Gate} {g : Gate} (hg : fvG g) (hp : ∀ j, j < p.length → fvG (nth p j)) : fvG (foldG b p g) := by
  unfold foldG
  cases b with
  | true =>
    have h1 : fg1 true p g = g := by simp [fg1]
    have h2 : fg2 true p g = g := by simp [fg2]
    rw [h1, h2]
    exact fv_m5 (fv_m4 (fv_n3 (fv_m2 (n1_eq hg).2)))
  | false =>
    obtain ⟨e1, v1⟩ := foldL_fg1 hg hp
    rw [e1] at v1
    obtain ⟨e2, v2⟩ := foldL_fg2 v1 hp
    exact fv_m5 (fv_m4 (fv_n3 (fv_m2 (n1_eq v2).2)))

theorem Vd.fv {c : Circ} (h : Vd c) {k i : Nat} (hk : k < c.layers.length) (hi : i < (nth c.layers k).length) : fvG (nth (nth c.layers k) i) := by
  obtain ⟨_, h1, h2, h3, h4⟩ := vG_inv (h.vg k hk i hi)
  exact ⟨h1, h2, h3, h4⟩

theorem fl_both {c : Circ} (h : Vd c) : ∀ k, k < c.layers.length → fl goG c.layers k = fl foldG c.layers k ∧ ∀ i, i < (nth c.layers k).length → fvG (nth (fl foldG c.layers k) i)
  | 0, hk => by
    refine ⟨tab_congr fun i hi => goG_foldG (h.fv hk hi) (fun j hj => absurd hj (by simp)), fun i hi => ?_⟩
    rw [fl_nth hi]
    exact fv_foldG (h.fv hk hi) (fun j hj => absurd hj (by simp [pv]))
  | k + 1, hk => by
    obtain ⟨e, hv⟩ := fl_both h k (by omega)
    have hp : ∀ j, j < (fl foldG c.layers k).length → fvG (nth (fl foldG c.layers k) j) := fun j hj => hv j (by rwa [fl_len] at hj)
    refine ⟨?_, fun i hi => ?_⟩
    · show tab _ _ = tab _ _
      refine tab_congr fun i hi => ?_
      rw [e]
      exact goG_foldG (h.fv hk hi) hp
    · rw [fl_nth hi]
      exact fv_foldG (h.fv hk hi) hp

/-- The program and the reference fold a valid circuit alike. -/
theorem fold_eq {c : Circ} (h : Vd c) : fold goG c = fold foldG c := by
  unfold fold
  congr 1
  exact tab_congr fun k hk => (fl_both h k hk).1

theorem vG_of {g : Gate} {n : Int} (ho : opG n g) (hf : fvG g) : vG g n = true := by
  simp only [vG, Bool.and_eq_true, decide_eq_true_eq]
  exact ⟨⟨⟨⟨⟨⟨⟨ho.1, ho.2.1⟩, ho.2.2.1⟩, ho.2.2.2⟩, hf.1⟩, hf.2.1⟩, hf.2.2.1⟩, hf.2.2.2⟩

theorem Vd.fold {c : Circ} (h : Vd c) : Vd (fold foldG c) where
  ok := h.ok.fold keeps_foldG
  inp := h.inp
  len := by show (tab _ _).length ≤ 64; rw [tab_len]; exact h.len
  row k hk := by
    simp only [Proofs.Ytjnbifkojpfdgaa.fold, tab_len] at hk ⊢
    rw [nth_tab hk, fl_len]; exact h.row k hk
  sm := by
    have hl := h.ok.len.1
    simp only [Proofs.Ytjnbifkojpfdgaa.fold, tab_len]
    rw [nth_tab (by omega), fl_len]; exact h.sm
  vg k hk i hi := by
    have ho := (h.ok.fold keeps_foldG).op k hk i hi
    refine vG_of ho ?_
    simp only [Proofs.Ytjnbifkojpfdgaa.fold, tab_len] at hk hi ⊢
    rw [nth_tab hk] at hi ⊢
    rw [fl_len] at hi
    exact (fl_both h k hk).2 i hi
end Go.Proofs.Ytjnbifkojpfdgaa

/-
  Sharing and removing keep circuits valid.
-/
namespace Go.Proofs.Ytjnbifkojpfdgaa
open Go Go.AL

theorem shTo_fv {ns : List Int} {first last : Bool} {l : List Gate} (h : ∀ j, j < l.length → fvG (nth l j)) : ∀ i, i ≤ l.length → ∀ j, j < (shTo ns first last l i).1.length → fvG (nth (shTo ns first last l i).1 j)
  | 0, _, j, hj => absurd hj (by simp [shTo])
  | i + 1, hi, j, hj => by
    have ih := shTo_fv (ns := ns) (first := first) (last := last) h i (by omega)
    have hg : fvG (shG ns first (nth l i)) := by
      have := h i (by omega)
      unfold shG
      split
      · exact this
      · exact ⟨this.1, this.2.1, this.2.2.1, this.2.2.2⟩
    have hnew : ∀ j, j < ((shTo ns first last l i).1 ++ [shG ns first (nth l i)]).length → fvG (nth ((shTo ns first last l i).1 ++ [shG ns first (nth l i)]) j) := fun j hj => by
      by_cases e : j < (shTo ns first last l i).1.length
      · rw [nth_append_l e]; exact ih j e
      · rw [nth_append_r (by omega), show j - (shTo ns first last l i).1.length = 0 by simp at hj; omega, nth_cons_zero]; exact hg
    simp only [shTo] at hj ⊢
    cases hf : findI (shTo ns first last l i).1 (shG ns first (nth l i)) with
    | none => rw [hf] at hj; exact hnew j hj
    | some m =>
      rw [hf] at hj
      simp only at hj ⊢
      split at hj
      · rename_i hl; rw [if_pos hl]; exact hnew j hj
      · rename_i hl; rw [if_neg hl]; exact ih j hj

theorem shTo_last {ns : List Int} {first : Bool} {l : List Gate} : ∀ i, (shTo ns first true l i).1.length = i
  | 0 => rfl
  | i + 1 => by
    have ih := shTo_last (ns := ns) (first := first) (l := l) i
    simp only [shTo]
    cases findI (shTo ns first true l i).1 (shG ns first (nth l i)) <;> simp [ih]

theorem Vd.share {c : Circ} (h : Vd c) : Vd (share c) where
  ok := h.ok.share
  inp := h.inp
  len := by show (tab _ _).length ≤ 64; rw [tab_len]; exact h.len
  row k hk := by
    simp only [Proofs.Ytjnbifkojpfdgaa.share, tab_len] at hk ⊢
    rw [nth_tab hk]
    have h1 := (shN_ok h.ok k hk).len
    have h2 := h.row k hk
    omega
  sm := by
    have hl := h.ok.len.1
    have hs := h.sm
    simp only [Proofs.Ytjnbifkojpfdgaa.share, tab_len]
    rw [nth_tab (by omega), shN_eq, show (c.layers.length - 1 + 1 == c.layers.length) = true by simp; omega, shTo_last]
    exact hs
  vg k hk i hi := by
    refine vG_of (h.ok.share.op k hk i hi) ?_
    simp only [Proofs.Ytjnbifkojpfdgaa.share, tab_len] at hk hi ⊢
    rw [nth_tab hk] at hi ⊢
    rw [shN_eq] at hi ⊢
    exact shTo_fv (fun j hj => h.fv hk hj) _ (Nat.le_refl _) i hi
end Go.Proofs.Ytjnbifkojpfdgaa

/-
  Removing unused gates keeps circuits valid; all steps of a valid circuit.
-/
namespace Go.Proofs.Ytjnbifkojpfdgaa
open Go Go.AL

theorem cnt_all {b : List Bool} : ∀ {i : Nat}, (∀ j, j < i → nth b j = true) → cntB b i = i
  | 0, _ => rfl
  | i + 1, h => by
    have ih := cnt_all (b := b) (i := i) fun j hj => h j (by omega)
    simp only [cntB, h i (by omega), if_true]
    omega
theorem fv_zeroU {x : Gate} (h : fvG x) : fvG (zeroU x) := fv_m4 (fv_n3 h)
theorem gw_fv {c : Circ} (h : Vd c) {d : Nat} (hd : d < c.layers.length) : ∀ j, j < (gw c d).length → fvG (nth (gw c d) j) := by
  rw [gw_eq]
  exact keepO_mem (h.ok.row (c.layers.length - 1 - d) (by omega)).1 (fun i hi => h.fv (by omega) hi)

theorem gw_sums {c : Circ} (h : Vd c) : c.sums ≤ ((gw c 0).length : Int) := by
  have hl := h.ok.len.1
  have hs := h.sm
  have h0 := h.ok.sums.1
  obtain ⟨s, hs'⟩ : ∃ s : Nat, c.sums = s := ⟨c.sums.toNat, by omega⟩
  rw [gw_eq, Nat.sub_zero]
  generalize hn : (nth c.layers (c.layers.length - 1)).length = n at *
  have hb : ∀ j, j < s → nth (fw c 0) j = true := fun j hj => by
    have hjn : j < (nth c.layers (c.layers.length - 1 - 0)).length := by rw [Nat.sub_zero, hn]; omega
    rw [fw, nth_tab hjn, want, if_pos (by omega)]
    have : decide ((j : Int) < c.sums) = true := by simp; omega
    rw [this]; rfl
  have h1 := cnt_all hb
  have h2 := sel_mono (b := fw c 0) (l := nth c.layers (c.layers.length - 1)) (show s ≤ n by omega)
  rw [sel_len, sel_len, h1] at h2
  unfold keepO
  rw [hn, sel_len]
  split
  · omega
  · rw [sel_len]; omega

theorem Vd.dead {c : Circ} (h : Vd c) : Vd (deadG c) where
  ok := h.ok.dead
  inp := h.inp
  len := by show (tab _ _).length ≤ 64; rw [tab_len]; exact h.len
  row k hk := by
    simp only [deadG, tab_len] at hk ⊢
    rw [nth_tab hk, gf, List.length_map, gw_eq, show c.layers.length - 1 - (c.layers.length - 1 - k) = k by omega]
    have h1 := keepO_le (b := fw c (c.layers.length - 1 - k)) (h.ok.row k hk).1
    have h2 := h.row k hk
    omega
  sm := by
    have hl := h.ok.len.1
    have hs := gw_sums h
    simp only [deadG, tab_len]
    rw [nth_tab (by omega), gf, List.length_map, Nat.sub_self]
    exact hs
  vg k hk i hi := by
    refine vG_of (h.ok.dead.op k hk i hi) ?_
    simp only [deadG, tab_len] at hk hi ⊢
    rw [nth_tab hk] at hi ⊢
    rw [gf, List.length_map] at hi
    rw [gf, nth_map hi]
    have hf := gw_fv h (show c.layers.length - 1 - k < c.layers.length by omega) i hi
    split
    · exact fv_zeroU hf
    · exact fv_zeroU ⟨hf.1, hf.2.1, hf.2.2.1, hf.2.2.2⟩

/-- All circuits on the way are valid. -/
theorem Vd.step1 {c : Circ} (h : Vd c) (j : Nat) : Vd (step1 j c) := by
  unfold Proofs.Ytjnbifkojpfdgaa.step1
  split
  · rw [fold_eq h]; exact h.fold
  · exact h.share
  · exact h.dead
theorem Vd.stp {c : Circ} (h : Vd c) : ∀ s, Vd (stp c s)
  | 0 => h
  | s + 1 => (Vd.stp h s).step1 _

theorem once_eq {c : Circ} (h : Vd c) : once goG c = once foldG c ∧ Vd (once foldG c) := by
  have e : once goG c = once foldG c := by unfold once; rw [fold_eq h]
  exact ⟨e, h.fold.share.dead⟩
theorem all_eq {c : Circ} (h : Vd c) : once goG (once goG c) = once foldG (once foldG c) := by
  obtain ⟨e, h1⟩ := once_eq h
  rw [e, (once_eq h1).1]
end Go.Proofs.Ytjnbifkojpfdgaa

/-
  What the reference makes of a circuit is valid.
-/
namespace Go.Proofs.Ytjnbifkojpfdgaa
open Go Go.AL

theorem mdR_op {c : Circ} {i : Nat} {n : Int} (hn : 1 ≤ n) : ∀ j, j < (mdR c i n).length → opG n (nth (mdR c i n) j) ∧ fvG (nth (mdR c i n) j) := by
  unfold mdR
  split
  · intro j hj
    have : j = 0 := by simpa using hj
    subst this
    rw [nth_cons_zero]
    exact ⟨⟨Int.le_refl _, by show (0 : Int) < n; omega, Int.le_refl _, by show (0 : Int) < n; omega⟩, fvG_mk zero_valid (by decide) zero_valid zero_valid⟩
  · intro j hj
    rw [tab_len] at hj
    rw [nth_tab hj]
    generalize nth (nth c.layers i) j = g
    exact ⟨⟨Int.emod_nonneg _ (by omega), Int.emod_lt_of_pos _ (by omega), Int.emod_nonneg _ (by omega), Int.emod_lt_of_pos _ (by omega)⟩, fvG_mk rRed_valid rRed_valid rRed_valid rRed_valid⟩

theorem made_wid {c : Circ} {k : Nat} (hk : k < mdN c) : wid (made c) k = mdW c k := by
  unfold wid mdW
  split
  · rfl
  · rw [show (made c).layers = tab (mdL c) (mdN c) from rfl, nth_tab (by omega)]

theorem mdN_le {c : Circ} : 1 ≤ mdN c ∧ mdN c ≤ 4 := by unfold mdN; omega

theorem made_ok (c : Circ) : Ok (made c) where
  inp := by have := mdW_pos (c := c) (i := 0); exact ⟨this.1, by have h := this.2; show mdI c ≤ 1000; have : mdW c 0 = mdI c := rfl; omega⟩
  sums := by
    have hw := mdW_pos (c := c) (i := mdN c)
    have h1 := Int.emod_nonneg (c.sums % 256) (show mdW c (mdN c) + 1 ≠ 0 by omega)
    have h2 := Int.emod_lt_of_pos (c.sums % 256) (show 0 < mdW c (mdN c) + 1 by omega)
    exact ⟨h1, by show c.sums % 256 % (mdW c (mdN c) + 1) ≤ 1000; omega⟩
  len := by
    have := mdN_le (c := c)
    show 1 ≤ (tab _ _).length ∧ (tab _ _).length ≤ 1000
    rw [tab_len]; omega
  row k hk := by
    simp only [made, tab_len] at hk ⊢
    rw [nth_tab hk]
    have := mdL_len (c := c) (i := k)
    omega
  op k hk i hi := by
    have hk' : k < mdN c := by simpa [made, tab] using hk
    rw [made_wid hk']
    simp only [made] at hi ⊢
    rw [nth_tab hk'] at hi ⊢
    rw [mdL_eq] at hi ⊢
    exact (mdR_op mdW_pos.1 i hi).1

/-- What the reference makes is a valid circuit. -/
theorem made_vd (c : Circ) : Vd (made c) where
  ok := made_ok c
  inp := by have := mdW_pos (c := c) (i := 0); show mdI c ≤ 64; have h : mdW c 0 = mdI c := rfl; omega
  len := by
    have := mdN_le (c := c)
    show (tab _ _).length ≤ 64
    rw [tab_len]; omega
  row k hk := by
    simp only [made, tab_len] at hk ⊢
    rw [nth_tab hk]
    have := mdL_len (c := c) (i := k)
    omega
  sm := by
    have hn := mdN_le (c := c)
    have hw := mdW_pos (c := c) (i := mdN c)
    have h2 := Int.emod_lt_of_pos (c.sums % 256) (show 0 < mdW c (mdN c) + 1 by omega)
    simp only [made, tab_len]
    rw [nth_tab (by omega)]
    have e : mdW c (mdN c) = ((mdL c (mdN c - 1)).length : Int) := by rw [mdW, if_neg (by omega)]
    rw [← e]
    omega
  vg k hk i hi := by
    refine vG_of ((made_ok c).op k hk i hi) ?_
    have hk' : k < mdN c := by simpa [made, tab] using hk
    simp only [made] at hi ⊢
    rw [nth_tab hk'] at hi ⊢
    rw [mdL_eq] at hi ⊢
    exact (mdR_op mdW_pos.1 i hi).2
end Go.Proofs.Ytjnbifkojpfdgaa

/-
  What the laws make of their argument.
-/
namespace Go.Proofs.Ytjnbifkojpfdgaa
open Go Go.AL

def inpV (c : Circ) (cols : List (List U)) (lg : BitVec 8) : PV := .agg [i64 c.inputs, .sl false 1 (pl (sle 6 gate) c.layers), i64 c.sums, .sl false 1 (pl (sle 1 w64) cols), b8 lg]
theorem acells_inp {c : Circ} {cols : List (List U)} {lg : BitVec 8} : acells (.p (inpV c cols lg)) = some [.p (i64 c.inputs), .p (.sl false 1 (pl (sle 6 gate) c.layers)), .p (i64 c.sums), .p (.sl false 1 (pl (sle 1 w64) cols)), .p (b8 lg)] := rfl
def pairR (x y : Option AV) : Option AV := match x, y with | some x, some y => some (.tup [x, y]) | _, _ => none
theorem pairR_some {x y : AV} : pairR (some x) (some y) = some (.tup [x, y]) := rfl
theorem ares_cell_tmp {P : Program} {a b : Nat} {t : TypeId} {env : Env} {H : Hp} : ares P [.cell a t, .tmp b] env H = pairR (aLoad P H t (env a)) (some (env b)) := by
  simp only [ares, aresAll, aresOne]
  cases aLoad P H t (env a) <;> rfl
attribute [go_sem] pairR_some ares_cell_tmp
attribute [go_sem] acells_inp

section walks
variable {G : Globs}

set_option maxHeartbeats 4000000 in
theorem W19_made_spec (c : Circ) (cols : List (List U)) (lg : BitVec 8) (hl : c.layers.length ≤ 9223372036854775807) (hr : ∀ i, i < c.layers.length → (nth c.layers i).length ≤ 9223372036854775807) (hl2 : cols.length ≤ 9223372036854775807) (hr2 : ∀ i, i < cols.length → (nth cols i).length ≤ 9223372036854775807)
    (H : Hp) (R : AV → Hp → Prop) (h : R (.tup [.p (circ (made c)), .p (.sl false 1 (pl (sle 1 w64) (columns cols (mdI c).toNat (2 ^ (lg.toNat % 3)))))]) H) : ACall Try.prog G 11 [.p (inpV c cols lg)] H R := by
  refine ACall.of_run (raw := []) Try.func11 rfl Try.ntmps11 (by simp) fun hbel => ?_
  have hi := mdW_pos (c := c) (i := 0)
  have hi' : mdW c 0 = mdI c := rfl
  obtain ⟨n, hn⟩ : ∃ n : Nat, mdI c = n := ⟨(mdI c).toNat, by omega⟩
  have hmn : (made c).inputs = (n : Int) := hn
  rw [hn, Int.toNat_natCast] at h
  have h3 : ((lg.toNat : Int) % 3) = ((lg.toNat % 3 : Nat) : Int) := by omega
  (repeat refine .z rfl ?_); refine .text ?_; simp (disch := first | exact dsc | fail) only [go_sem, seval]
  (repeat refine .z rfl ?_); refine .text ?_; simp (disch := first | exact dsc | fail) only [go_sem, seval]
  refine CallK.of (fun R h => R16_Made_spec c hl hr _ R h) ?_; simp (disch := first | exact dsc | fail) only [go_sem, seval]
  (repeat refine .z rfl ?_); refine .open [10] follows (by kernel_rfl) ?_; simp (disch := first | exact dsc | fail) only [go_sem, seval, hmn, h3]
  refine CallD.still (fun R h => R16_Columns_spec cols hl2 hr2 n (lg.toNat % 3) (by omega) (by omega) _ R h) ?_; simp (disch := first | exact dsc | fail) only [go_sem, seval, hmn]
  (repeat refine .z rfl ?_); refine .rt Try.func11 (by rw [Try.results11]) (hR := ?_); simp (disch := first | exact dsc | fail) only [go_sem, seval]
  have he : (⟨(n : Int), (made c).layers, (made c).sums⟩ : Circ) = made c := by rw [← hmn]
  rw [he]
  exact h
end walks
end Go.Proofs.Ytjnbifkojpfdgaa

/-
  Circuits written out: whether they are valid, reckoned.
-/
namespace Go.Proofs.Ytjnbifkojpfdgaa
open Go Go.AL

def vdB (c : Circ) : Bool :=
  decide (1 ≤ c.inputs) && decide (c.inputs ≤ 64) && decide (0 ≤ c.sums) && decide (c.sums ≤ 64) && decide (1 ≤ c.layers.length) && decide (c.layers.length ≤ 64) &&
    decide (c.sums ≤ ((nth c.layers (c.layers.length - 1)).length : Int)) &&
    (List.range c.layers.length).all fun k => decide (1 ≤ (nth c.layers k).length) && decide ((nth c.layers k).length ≤ 64) && (List.range (nth c.layers k).length).all fun i => vG (nth (nth c.layers k) i) (wid c k)

theorem vdB_vd {c : Circ} (h : vdB c = true) : Vd c := by
  simp only [vdB, Bool.and_eq_true, decide_eq_true_eq, List.all_eq_true, List.mem_range] at h
  obtain ⟨⟨⟨⟨⟨⟨⟨h1, h2⟩, h3⟩, h4⟩, h5⟩, h6⟩, h7⟩, h8⟩ := h
  refine ⟨⟨⟨h1, by omega⟩, ⟨h3, by omega⟩, ⟨h5, by omega⟩, fun k hk => ?_, fun k hk i hi => ?_⟩, h2, h6, fun k hk => ?_, h7, fun k hk i hi => ?_⟩
  · obtain ⟨⟨a, b⟩, _⟩ := h8 k hk
    exact ⟨a, by omega⟩
  · exact (vG_inv ((h8 k hk).2 i hi)).1
  · exact (h8 k hk).1.2
  · exact (h8 k hk).2 i hi

def twice : Circ := ⟨1, [[⟨0, 0, 0, 1, 0, 0⟩, ⟨0, 0, 0, 1, 0, 0⟩], [⟨0, 1, 0, 1, 1, 0⟩]], 1⟩
def constC : Circ := ⟨2, [[⟨0, 0, 0, 0, 0, 5⟩, ⟨1, 0, 0, 1, 0, 0⟩], [⟨0, 1, 1, 0, 0, 0⟩]], 1⟩
def zeroC : Circ := ⟨1, [[⟨0, 0, 1, 0, 0, 0⟩, ⟨0, 0, 0, 0, 0, 0⟩, ⟨0, 0, 0, 0, 0, 1⟩]], 1⟩
theorem twice_vd : Vd twice := vdB_vd (by decide)
theorem const_vd : Vd constC := vdB_vd (by decide)
theorem zero_vd : Vd zeroC := vdB_vd (by decide)

/-! ### What sanity asks -/
theorem san_a : once goG (once goG twice) = ⟨1, [[⟨0, 0, 0, 1, 0, 0⟩], [⟨0, 0, 0, 2, 0, 0⟩]], 1⟩ := by decide
theorem san_b : once goG (once goG constC) = ⟨2, [[⟨1, 0, 0, 1, 0, 0⟩], [⟨0, 0, 0, 5, 0, 0⟩]], 1⟩ := by decide
theorem san_d : deadG zeroC = ⟨1, [[⟨0, 0, 1, 0, 0, 0⟩, ⟨0, 0, 0, 0, 0, 1⟩]], 1⟩ := by decide
theorem san_f : fold goG twice = twice := by decide
theorem san_s : share twice = ⟨1, [[⟨0, 0, 0, 1, 0, 0⟩], [⟨0, 0, 0, 1, 1, 0⟩]], 1⟩ := by decide
theorem san_n : size twice = 3 ∧ size (once goG (once goG twice)) = 2 := by decide
end Go.Proofs.Ytjnbifkojpfdgaa

/-
  The walk of the laws' fixed examples.
-/
namespace Go.Proofs.Ytjnbifkojpfdgaa
open Go Go.AL

theorem mkAgg_circL {i s : Int} {b : Bool} {ls : List PV} : mkAgg [.p (i64 i), .p (.sl b 1 ls), .p (i64 s)] = .p (.agg [i64 i, .sl b 1 ls, i64 s]) := rfl
theorem acells_circL {i s : Int} {b : Bool} {ls : List PV} : acells (.p (.agg [i64 i, .sl b 1 ls, i64 s])) = some [.p (i64 i), .p (.sl b 1 ls), .p (i64 s)] := rfl

def sA : Circ := ⟨1, [[⟨0, 0, 0, 1, 0, 0⟩], [⟨0, 0, 0, 2, 0, 0⟩]], 1⟩
def sB : Circ := ⟨2, [[⟨1, 0, 0, 1, 0, 0⟩], [⟨0, 0, 0, 5, 0, 0⟩]], 1⟩
def sD : Circ := ⟨1, [[⟨0, 0, 1, 0, 0, 0⟩, ⟨0, 0, 0, 0, 0, 1⟩]], 1⟩
def sS : Circ := ⟨1, [[⟨0, 0, 0, 1, 0, 0⟩], [⟨0, 0, 0, 1, 1, 0⟩]], 1⟩
theorem hA : decide (once goG (once goG twice) = sA) = true := decide_eq_true san_a
theorem hB : decide (once goG (once goG constC) = sB) = true := decide_eq_true san_b
theorem hD : decide (deadG zeroC = sD) = true := decide_eq_true san_d
theorem hF : decide (fold goG twice = twice) = true := decide_eq_true san_f
theorem hS : decide (share twice = sS) = true := decide_eq_true san_s
section walks
variable {G : Globs}

set_option maxHeartbeats 8000000 in
theorem W19_sanity_spec (H : Hp) (R : AV → Hp → Prop) (h : R (.p (bo true)) H) : ACall Try.prog G 10 [] H R := by
  refine ACall.of_run (raw := []) Try.func10 rfl Try.ntmps10 (by simp) fun hbel => ?_
  (repeat refine .z rfl ?_); refine .text ?_; simp (disch := first | exact dsc | fail) only [go_sem, seval, mkAgg_circL, acells_circL]
  (repeat refine .z rfl ?_); refine .text ?_; simp (disch := first | exact dsc | fail) only [go_sem, seval, mkAgg_circL, acells_circL]
  (repeat refine .z rfl ?_); refine .text ?_; simp (disch := first | exact dsc | fail) only [go_sem, seval, mkAgg_circL, acells_circL]
  (repeat refine .z rfl ?_); refine .text ?_; simp (disch := first | exact dsc | fail) only [go_sem, seval, mkAgg_circL, acells_circL]
  (repeat refine .z rfl ?_); refine .weakC (H.n) (by simp (disch := first | exact dsc | fail) only [go_sem, seval]; rfl) ?_; (try simp (disch := first | exact dsc | fail) only [go_sem, seval, List.map_replicate, List.map_cons, List.map_nil, AV.weak, PV.weak])
  (repeat refine .z rfl ?_); refine .weakC (H.n+1) (by simp (disch := first | exact dsc | fail) only [go_sem, seval]; rfl) ?_; (try simp (disch := first | exact dsc | fail) only [go_sem, seval, List.map_replicate, List.map_cons, List.map_nil, AV.weak, PV.weak])
  (repeat refine .z rfl ?_); refine .weakC (H.n+2) (by simp (disch := first | exact dsc | fail) only [go_sem, seval]; rfl) ?_; (try simp (disch := first | exact dsc | fail) only [go_sem, seval, List.map_replicate, List.map_cons, List.map_nil, AV.weak, PV.weak])
  change ARun _ _ _ (((H.new (.cells (cc twice))).new (.cells (cc constC))).new (.cells (cc zeroC))) _
  (repeat refine .z rfl ?_); refine .openF 6 9 12 [6, 7, 8, 9, 10, 11] follows (by kernel_rfl) (by kernel_rfl) ?_; simp (disch := first | exact dsc | fail) only [go_sem, seval]
  refine CallQE.of (fun H R h => optimize_All_spec twice (fun s _ => twice_vd.stp s) H R h) (by first | exact .p _ | simp (disch := first | exact dsc | fail) only [go_sem, seval]) ?_; simp (disch := first | exact dsc | fail) only [go_sem, seval]
  refine CallQE.of (fun H R h => optimize_All_spec constC (fun s _ => const_vd.stp s) H R h) (by first | exact .p _ | simp (disch := first | exact dsc | fail) only [go_sem, seval]) ?_; simp (disch := first | exact dsc | fail) only [go_sem, seval]
  refine CallQE.of (fun H R h => optimize_Dead_spec zeroC zero_vd.ok H R h) (by first | exact .p _ | simp (disch := first | exact dsc | fail) only [go_sem, seval]) ?_; simp (disch := first | exact dsc | fail) only [go_sem, seval]
  (repeat refine .z rfl ?_); refine .openF 4 6 8 [4, 5, 6, 7] follows (by kernel_rfl) (by kernel_rfl) ?_; simp (disch := first | exact dsc | fail) only [go_sem, seval]
  refine CallQE.of (fun H R h => optimize_Fold_spec twice twice_vd.ok H R h) (by first | exact .p _ | simp (disch := first | exact dsc | fail) only [go_sem, seval]) ?_; simp (disch := first | exact dsc | fail) only [go_sem, seval]
  refine CallQE.of (fun H R h => optimize_Share_spec twice twice_vd.ok H R h) (by first | exact .p _ | simp (disch := first | exact dsc | fail) only [go_sem, seval]) ?_; simp (disch := first | exact dsc | fail) only [go_sem, seval]
  (repeat refine .z rfl ?_); refine .text ?_; simp (disch := first | exact dsc | fail) only [go_sem, seval, mkAgg_circL, acells_circL]
  have oA : Ok (once goG (once goG twice)) := (twice_vd.stp 6).ok
  have oB : Ok (once goG (once goG constC)) := (const_vd.stp 6).ok
  refine CallK.of (fun R h => R16_Same_spec _ sA oA (vdB_vd (by decide)).ok _ R h) ?_; simp (disch := first | exact dsc | fail) only [go_sem, seval, hA, hB, hD, hF, hS, mkAgg_circL, acells_circL]
  refine CallK.of (fun R h => R16_Same_spec _ sB oB (vdB_vd (by decide)).ok _ R h) ?_; simp (disch := first | exact dsc | fail) only [go_sem, seval, hA, hB, hD, hF, hS, mkAgg_circL, acells_circL]
  refine CallK.of (fun R h => R16_Same_spec _ sD zero_vd.dead.ok (vdB_vd (by decide)).ok _ R h) ?_; simp (disch := first | exact dsc | fail) only [go_sem, seval, hA, hB, hD, hF, hS, mkAgg_circL, acells_circL]
  refine CallK.of (fun R h => R16_Same_spec _ twice (twice_vd.ok.fold keeps_goG) twice_vd.ok _ R h) ?_; simp (disch := first | exact dsc | fail) only [go_sem, seval, hA, hB, hD, hF, hS, mkAgg_circL, acells_circL]
  refine CallK.of (fun R h => R16_Same_spec _ sS twice_vd.ok.share (vdB_vd (by decide)).ok _ R h) ?_; simp (disch := first | exact dsc | fail) only [go_sem, seval, hA, hB, hD, hF, hS, mkAgg_circL, acells_circL]
  refine CallK.of (fun R h => optimize_Size_spec twice twice_vd.ok _ R h) ?_; simp (disch := first | exact dsc | fail) only [go_sem, seval, hA, hB, hD, hF, hS, mkAgg_circL, acells_circL, san_n.1, san_n.2]
  refine CallK.of (fun R h => optimize_Size_spec _ oA _ R h) ?_; simp (disch := first | exact dsc | fail) only [go_sem, seval, hA, hB, hD, hF, hS, mkAgg_circL, acells_circL, san_n.1, san_n.2]
  (repeat refine .z rfl ?_); refine .rt Try.func10 (by rw [Try.results10]) (hR := ?_); simp (disch := first | exact dsc | fail) only [go_sem, seval]
  exact h
end walks
end Go.Proofs.Ytjnbifkojpfdgaa

/-
  The walk of OptimizeMatchesReference.
-/
namespace Go.Proofs.Ytjnbifkojpfdgaa
open Go Go.AL

section walks
variable {G : Globs}

set_option maxHeartbeats 8000000 in
theorem W19_Matches_spec (c : Circ) (cols : List (List U)) (lg : BitVec 8) (hl : c.layers.length ≤ 9223372036854775807) (hr : ∀ i, i < c.layers.length → (nth c.layers i).length ≤ 9223372036854775807) (hl2 : cols.length ≤ 9223372036854775807) (hr2 : ∀ i, i < cols.length → (nth cols i).length ≤ 9223372036854775807)
    (H : Hp) (R : AV → Hp → Prop) (h : R (.p (bo true)) H) : ACall Try.prog G 3 [.p (inpV c cols lg)] H R := by
  refine ACall.of_run (raw := []) Try.func3 rfl Try.ntmps3 (by simp) fun hbel => ?_
  have hv := made_vd c
  have hf := hv.fold
  (repeat refine .z rfl ?_); refine .text ?_; simp (disch := first | exact dsc | fail) only [go_sem, seval]
  (repeat refine .z rfl ?_); refine .text ?_; simp (disch := first | exact dsc | fail) only [go_sem, seval]
  refine CallK.of (fun R h => W19_sanity_spec _ R h) ?_; simp (disch := first | exact dsc | fail) only [go_sem, seval]
  (repeat refine .z rfl ?_); refine .text ?_; simp (disch := first | exact dsc | fail) only [go_sem, seval]
  refine CallK.of (fun R h => W19_made_spec c cols lg hl hr hl2 hr2 _ R h) ?_; simp (disch := first | exact dsc | fail) only [go_sem, seval]
  generalize made c = m at *
  (repeat refine .z rfl ?_); refine .text ?_; simp (disch := first | exact dsc | fail) only [go_sem, seval]
  refine CallK.of (fun R h => R19_Fold_spec m hv.ok _ R h) ?_; simp (disch := first | exact dsc | fail) only [go_sem, seval]
  have q1 : decide (fold goG m = fold foldG m) = true := decide_eq_true (fold_eq hv)
  have q2 : decide (deadG m = deadR m) = true := decide_eq_true (dead_eq hv.ok)
  have q3 : decide (once goG (once goG m) = once foldG (once foldG m)) = true := decide_eq_true (all_eq hv)
  have q4 : ∀ x : Circ, decide (x = x) = true := fun x => decide_eq_true rfl
  have oA : Ok (once goG (once goG m)) := (hv.stp 6).ok
  have oR : Ok (once foldG (once foldG m)) := by rw [← all_eq hv]; exact oA
  have oD : Ok (deadR m) := by rw [← dead_eq hv.ok]; exact hv.ok.dead
  (repeat refine .z rfl ?_); refine .open [] follows (by kernel_rfl) ?_; simp (disch := first | exact dsc | fail) only [go_sem, seval]
  refine CallD.still (fun R h => optimize_Fold_spec m hv.ok _ R h) ?_; simp (disch := first | exact dsc | fail) only [go_sem, seval]
  refine CallD.still (fun R h => R16_Same_spec _ _ (hv.ok.fold keeps_goG) hf.ok _ R h) ?_; simp (disch := first | exact dsc | fail) only [go_sem, seval, q1, q2, q3, q4]
  refine CallD.still (fun R h => optimize_Share_spec m hv.ok _ R h) ?_; simp (disch := first | exact dsc | fail) only [go_sem, seval]
  refine CallD.still (fun R h => R19_Share_spec m hv.ok _ R h) ?_; simp (disch := first | exact dsc | fail) only [go_sem, seval]
  refine CallD.still (fun R h => R16_Same_spec _ _ hv.ok.share hv.ok.share _ R h) ?_; simp (disch := first | exact dsc | fail) only [go_sem, seval, q1, q2, q3, q4]
  refine CallD.still (fun R h => optimize_Share_spec _ hf.ok _ R h) ?_; simp (disch := first | exact dsc | fail) only [go_sem, seval]
  refine CallD.still (fun R h => R19_Share_spec _ hf.ok _ R h) ?_; simp (disch := first | exact dsc | fail) only [go_sem, seval]
  refine CallD.still (fun R h => R16_Same_spec _ _ hf.ok.share hf.ok.share _ R h) ?_; simp (disch := first | exact dsc | fail) only [go_sem, seval, q1, q2, q3, q4]
  refine CallD.still (fun R h => optimize_Dead_spec m hv.ok _ R h) ?_; simp (disch := first | exact dsc | fail) only [go_sem, seval]
  refine CallD.still (fun R h => R19_Dead_spec m hv.ok _ R h) ?_; simp (disch := first | exact dsc | fail) only [go_sem, seval]
  refine CallD.still (fun R h => R16_Same_spec _ _ hv.ok.dead oD _ R h) ?_; simp (disch := first | exact dsc | fail) only [go_sem, seval, q1, q2, q3, q4]
  refine CallD.still (fun R h => optimize_All_spec m (fun s _ => hv.stp s) _ R h) ?_; simp (disch := first | exact dsc | fail) only [go_sem, seval]
  refine CallD.still (fun R h => R19_All_spec m hv.ok _ R h) ?_; simp (disch := first | exact dsc | fail) only [go_sem, seval]
  refine CallD.still (fun R h => R16_Same_spec _ _ oA oR _ R h) ?_; simp (disch := first | exact dsc | fail) only [go_sem, seval, q1, q2, q3, q4]
  refine CallD.still (fun R h => optimize_Size_spec m hv.ok _ R h) ?_; simp (disch := first | exact dsc | fail) only [go_sem, seval]
  refine CallD.still (fun R h => R19_Size_spec m hv.ok _ R h) ?_; simp (disch := first | exact dsc | fail) only [go_sem, seval, beq_self_eq_true]
  (repeat refine .z rfl ?_); refine .rt Try.func3 (by rw [Try.results3]) (hx := by simp (disch := first | exact dsc | fail) only [go_sem, seval, beq_self_eq_true]; rfl) (hR := ?_); simp (disch := first | exact dsc | fail) only [go_sem, seval, beq_self_eq_true]
  exact h
end walks
end Go.Proofs.Ytjnbifkojpfdgaa

/-
  Evaluating circuits: the plain functions and the walks of the reference's evaluation.
-/
namespace Go.Proofs.Ytjnbifkojpfdgaa
open Go Go.AL

def layV (l : List Gate) (inp : List U) : List U := tab (fun i => rGate (nth l i) (nth inp (nth l i).l.toNat) (nth inp (nth l i).r.toNat)) l.length
def rowV (c : Circ) (inp : List U) : Nat → List U
  | 0 => inp
  | k + 1 => layV (nth c.layers k) (rowV c inp k)
def colsAt (cols : List (List U)) (r : Nat) : List U := tab (fun i => nth (nth cols i) r) cols.length
theorem layV_len {l : List Gate} {inp : List U} : (layV l inp).length = l.length := tab_len
theorem colsAt_len {cols : List (List U)} {r : Nat} : (colsAt cols r).length = cols.length := tab_len
theorem rowV_len {c : Circ} {inp : List U} {k : Nat} : (rowV c inp (k + 1)).length = (nth c.layers k).length := tab_len

theorem shl16 : ∀ k, k < 17 → IntKind.i64.wrap (1 * 2 ^ k) = ((2 ^ k : Nat) : Int) := by decide +kernel

def widV (n : Nat) : Nat := if n ≤ 1 then 0 else Nat.log2 (n - 1) + 1
theorem widV_lt {n w : Nat} (h : w < widV n) : 2 ^ w < n := by
  unfold widV at h
  split at h
  · omega
  · have h1 := Nat.log2_self_le (n := n - 1) (by omega)
    have h2 : 2 ^ w ≤ 2 ^ Nat.log2 (n - 1) := Nat.pow_le_pow_right (by omega) (by omega)
    omega
theorem widV_ge {n : Nat} : n ≤ 2 ^ widV n := by
  unfold widV
  split
  · rename_i h; rw [Nat.pow_zero]; exact h
  · have h1 := Nat.lt_log2_self (n := n - 1)
    omega
theorem widV_le {n : Nat} (h : n ≤ 1000) : widV n ≤ 10 := by
  rcases Nat.lt_or_ge 10 (widV n) with h1 | h1
  · have := widV_lt h1
    omega
  · exact h1

section walks
variable {G : Globs}

set_option maxHeartbeats 4000000 in
theorem R16_Layer_spec (l : List Gate) (inp : List U) (hl : l.length ≤ 1000) (hop : ∀ i, i < l.length → opG (inp.length : Int) (nth l i)) (H : Hp) (R : AV → Hp → Prop) (h : R (.p (.sl false 1 (pl w64 (layV l inp)))) H) :
    ACall Try.prog G 72 [.p (.sl false 6 (pl gate l)), .p (.sl false 1 (pl w64 inp))] H R := by
  refine ACall.of_run (raw := []) Try.func72 rfl Try.ntmps72 (by simp) fun hbel => ?_
  (repeat refine .z rfl ?_); refine .text ?_; simp (disch := first | exact dsc | fail) only [go_sem, seval]
  (repeat refine .z rfl ?_); refine .text ?_; simp (disch := first | exact dsc | fail) only [go_sem, seval]
  (repeat refine .z rfl ?_); refine .own 5 (by simp (disch := first | exact dsc | fail) only [go_sem, seval]; rfl) ?_
  (repeat refine .z rfl ?_); refine .text ?_; simp (disch := first | exact dsc | fail) only [go_sem, seval]
  (repeat refine .z rfl ?_); refine .loopE [0, 1] (fun i => [(5, .sl H.n i 1 (pl w64 (tab (fun i => rGate (nth l i) (nth inp (nth l i).l.toNat) (nth inp (nth l i).r.toNat)) i))), (6, .p (i64 i))]) (fun i => [(H.n, .tail i)]) (fun i => True) (0) (l.length) (by omega) ?_ (by first | rfl | (simp (disch := first | exact dsc | fail) only [go_sem, seval, tab_zero] <;> rfl)) ?_ ?_ ?_
  · simp (disch := first | exact dsc | fail) only [go_sem, seval, tab_zero] <;> (repeat' (first | rfl | refine And.intro ?_ ?_))
  · exact trivial
  intro env E hQ; simp (disch := first | exact dsc | fail) only [go_sem, seval, tab_zero] at E
  rotate_left 1
  intro i env hi0 hi E hQ ihE; simp (disch := first | exact dsc | fail) only [go_sem, seval, tab_zero] at E
  rotate_left 1
  · (repeat refine .z rfl ?_); refine .text ?_; simp (disch := first | exact dsc | fail) only [go_sem, seval, E]
    (repeat refine .z rfl ?_); refine .ifF (by simp (disch := first | exact dsc | fail) only [go_sem, seval]) ?_
    (repeat refine .z rfl ?_); refine .text ?_; simp (disch := first | exact dsc | fail) only [go_sem, seval, E]
    (repeat refine .z rfl ?_); refine .rt Try.func72 (by rw [Try.results72]) (hR := ?_); simp (disch := first | exact dsc | fail) only [go_sem, seval]
    exact h
  · obtain ⟨o1, o2, o3, o4⟩ := hop i hi
    (repeat refine .z rfl ?_); refine .text ?_; simp (disch := first | exact dsc | fail) only [go_sem, seval, E]
    (repeat refine .z rfl ?_); refine .ifT (by simp (disch := first | exact dsc | fail) only [go_sem, seval]) ?_
    (repeat refine .z rfl ?_); refine .open [23] follows (by kernel_rfl) ?_; simp (disch := first | exact dsc | fail) only [go_sem, seval, E]
    refine CallD.still (fun R h => R16_Gate_spec _ _ _ _ R h) ?_; simp (disch := first | exact dsc | fail) only [go_sem, seval, E]
    (repeat refine .z rfl ?_); refine .text ?_; simp (disch := first | exact dsc | fail) only [go_sem, seval, E]
    first | (refine ihE _ _ ?_ trivial ?_) | (refine .z rfl ?_; refine ihE _ _ ?_ trivial ?_) | (refine .z rfl ?_; refine .z rfl ?_; refine ihE _ _ ?_ trivial ?_) | (refine .z rfl ?_; refine .z rfl ?_; refine .z rfl ?_; refine ihE _ _ ?_ trivial ?_)
    · simp (disch := first | exact dsc | fail) only [go_sem, seval, E, tab_succ] <;> (repeat' (first | rfl | refine And.intro ?_ ?_))
    · first | rfl | (simp (disch := first | exact dsc | fail) only [go_sem, seval, E, tab_succ] <;> (try rfl))

set_option maxHeartbeats 4000000 in
theorem R16_Row_spec (c : Circ) (hc : Ok c) (inp : List U) (hi : (inp.length : Int) = c.inputs) (H : Hp) (R : AV → Hp → Prop) (h : R (.p (.sl false 1 (pl (sle 1 w64) (tab (rowV c inp) (c.layers.length + 1))))) H) :
    ACall Try.prog G 51 [.p (circ c), .p (.sl false 1 (pl w64 inp))] H R := by
  refine ACall.of_run (raw := []) Try.func51 rfl Try.ntmps51 (by simp) fun hbel => ?_
  have hl := hc.len.2
  (repeat refine .z rfl ?_); refine .text ?_; simp (disch := first | exact dsc | fail) only [go_sem, seval]
  (repeat refine .z rfl ?_); refine .text ?_; simp (disch := first | exact dsc | fail) only [go_sem, seval]
  (repeat refine .z rfl ?_); refine .own 5 (by simp (disch := first | exact dsc | fail) only [go_sem, seval]; rfl) ?_
  (repeat refine .z rfl ?_); refine .text ?_; simp (disch := first | exact dsc | fail) only [go_sem, seval]
  (repeat refine .z rfl ?_); refine .loopE [2] (fun k => [(5, .sl (H.n+1) k 1 (pl (sle 1 w64) (tab (rowV c inp) (k + 1)))), (6, .p (i64 k))]) (fun k => [(H.n+1, .tail k)]) (fun k => True) (0) (c.layers.length) (by omega) ?_ (by first | rfl | (simp (disch := first | exact dsc | fail) only [go_sem, seval, tab_zero] <;> rfl)) ?_ ?_ ?_
  · simp (disch := first | exact dsc | fail) only [go_sem, seval, tab_zero] <;> (repeat' (first | rfl | refine And.intro ?_ ?_))
  · exact trivial
  intro env E hQ; simp (disch := first | exact dsc | fail) only [go_sem, seval, tab_zero] at E
  rotate_left 1
  intro k env hk0 hk E hQ ihE; simp (disch := first | exact dsc | fail) only [go_sem, seval, tab_zero] at E
  rotate_left 1
  · (repeat refine .z rfl ?_); refine .text ?_; simp (disch := first | exact dsc | fail) only [go_sem, seval, E]
    (repeat refine .z rfl ?_); refine .ifF (by simp (disch := first | exact dsc | fail) only [go_sem, seval]) ?_
    (repeat refine .z rfl ?_); refine .text ?_; simp (disch := first | exact dsc | fail) only [go_sem, seval, E]
    (repeat refine .z rfl ?_); refine .rt Try.func51 (by rw [Try.results51]) (hR := ?_); simp (disch := first | exact dsc | fail) only [go_sem, seval]
    exact h
  · have hr := (hc.row k hk).2
    have hw : wid c k = ((rowV c inp k).length : Int) := by
      cases k with
      | zero => exact hi.symm
      | succ k => rw [rowV_len, wid, if_neg (by omega)]; rfl
    have hop := hc.op k hk
    rw [hw] at hop
    have hn : nth (tab (rowV c inp) (k + 1)) k = rowV c inp k := nth_tab (by omega)
    (repeat refine .z rfl ?_); refine .text ?_; simp (disch := first | exact dsc | fail) only [go_sem, seval, E]
    (repeat refine .z rfl ?_); refine .ifT (by simp (disch := first | exact dsc | fail) only [go_sem, seval]) ?_
    (repeat refine .z rfl ?_); refine .open [12] follows (by kernel_rfl) ?_; simp (disch := first | exact dsc | fail) only [go_sem, seval, E, hn]
    refine CallD.still (fun R h => R16_Layer_spec _ _ hr hop _ R h) ?_; simp (disch := first | exact dsc | fail) only [go_sem, seval, E]
    (repeat refine .z rfl ?_); refine .text ?_; simp (disch := first | exact dsc | fail) only [go_sem, seval, E]
    first | (refine ihE _ _ ?_ trivial ?_) | (refine .z rfl ?_; refine ihE _ _ ?_ trivial ?_) | (refine .z rfl ?_; refine .z rfl ?_; refine ihE _ _ ?_ trivial ?_) | (refine .z rfl ?_; refine .z rfl ?_; refine .z rfl ?_; refine ihE _ _ ?_ trivial ?_)
    · simp (disch := first | exact dsc | fail) only [go_sem, seval, E, tab_succ] <;> (repeat' (first | rfl | refine And.intro ?_ ?_))
    · first | rfl | (simp (disch := first | exact dsc | fail) only [go_sem, seval, E, tab_succ] <;> (try rfl))

set_option maxHeartbeats 4000000 in
theorem R16_Inputs_spec (cols : List (List U)) (hl : cols.length ≤ 1000) (r : Nat) (hr : ∀ i, i < cols.length → r < (nth cols i).length) (H : Hp) (R : AV → Hp → Prop) (h : R (.p (.sl false 1 (pl w64 (colsAt cols r)))) H) :
    ACall Try.prog G 52 [.p (.sl false 1 (pl (sle 1 w64) cols)), .p (i64 r)] H R := by
  refine ACall.of_run (raw := []) Try.func52 rfl Try.ntmps52 (by simp) fun hbel => ?_
  (repeat refine .z rfl ?_); refine .text ?_; simp (disch := first | exact dsc | fail) only [go_sem, seval]
  (repeat refine .z rfl ?_); refine .text ?_; simp (disch := first | exact dsc | fail) only [go_sem, seval]
  (repeat refine .z rfl ?_); refine .own 5 (by simp (disch := first | exact dsc | fail) only [go_sem, seval]; rfl) ?_
  (repeat refine .z rfl ?_); refine .text ?_; simp (disch := first | exact dsc | fail) only [go_sem, seval]
  (repeat refine .z rfl ?_); refine .loopE [0, 1] (fun i => [(5, .sl H.n i 1 (pl w64 (tab (fun i => nth (nth cols i) r) i))), (6, .p (i64 i))]) (fun i => [(H.n, .tail i)]) (fun i => True) (0) (cols.length) (by omega) ?_ (by first | rfl | (simp (disch := first | exact dsc | fail) only [go_sem, seval, tab_zero] <;> rfl)) ?_ ?_ ?_
  · simp (disch := first | exact dsc | fail) only [go_sem, seval, tab_zero] <;> (repeat' (first | rfl | refine And.intro ?_ ?_))
  · exact trivial
  intro env E hQ; simp (disch := first | exact dsc | fail) only [go_sem, seval, tab_zero] at E
  rotate_left 1
  intro i env hi0 hi E hQ ihE; simp (disch := first | exact dsc | fail) only [go_sem, seval, tab_zero] at E
  rotate_left 1
  · (repeat refine .z rfl ?_); refine .text ?_; simp (disch := first | exact dsc | fail) only [go_sem, seval, E]
    (repeat refine .z rfl ?_); refine .ifF (by simp (disch := first | exact dsc | fail) only [go_sem, seval]) ?_
    (repeat refine .z rfl ?_); refine .text ?_; simp (disch := first | exact dsc | fail) only [go_sem, seval, E]
    (repeat refine .z rfl ?_); refine .rt Try.func52 (by rw [Try.results52]) (hR := ?_); simp (disch := first | exact dsc | fail) only [go_sem, seval]
    exact h
  · have hri := hr i hi
    (repeat refine .z rfl ?_); refine .text ?_; simp (disch := first | exact dsc | fail) only [go_sem, seval, E]
    (repeat refine .z rfl ?_); refine .ifT (by simp (disch := first | exact dsc | fail) only [go_sem, seval]) ?_
    (repeat refine .z rfl ?_); refine .text ?_; simp (disch := first | exact dsc | fail) only [go_sem, seval, E]
    (repeat refine .z rfl ?_); refine .text ?_; simp (disch := first | exact dsc | fail) only [go_sem, seval, E]
    first | (refine ihE _ _ ?_ trivial ?_) | (refine .z rfl ?_; refine ihE _ _ ?_ trivial ?_) | (refine .z rfl ?_; refine .z rfl ?_; refine ihE _ _ ?_ trivial ?_) | (refine .z rfl ?_; refine .z rfl ?_; refine .z rfl ?_; refine ihE _ _ ?_ trivial ?_)
    · simp (disch := first | exact dsc | fail) only [go_sem, seval, E, tab_succ] <;> (repeat' (first | rfl | refine And.intro ?_ ?_))
    · first | rfl | (simp (disch := first | exact dsc | fail) only [go_sem, seval, E, tab_succ] <;> (try rfl))

set_option maxHeartbeats 4000000 in
theorem R16_Width_spec (n : Nat) (hn : n ≤ 1000) (H : Hp) (R : AV → Hp → Prop) (h : R (.p (i64 (widV n : Nat))) H) : ACall Try.prog G 53 [.p (i64 n)] H R := by
  refine ACall.of_run (raw := []) Try.func53 rfl Try.ntmps53 (by simp) fun hbel => ?_
  have hw := widV_le hn
  have hge := widV_ge (n := n)
  have hno : decide (((2 ^ widV n : Nat) : Int) < (n : Int)) = false := by simp only [decide_eq_false_iff_not]; omega
  (repeat refine .z rfl ?_); refine .text ?_; simp (disch := first | exact dsc | fail) only [go_sem, seval]
  (repeat refine .z rfl ?_); refine .text ?_; simp (disch := first | exact dsc | fail) only [go_sem, seval]
  (repeat refine .zs rfl ?_); first | refine .cutF0 [0] [(3, .p (i64 (widV n : Nat)))] (fun ihE => ?_) (fun env T E => ?_) | refine .cutF [0] [(3, .p (i64 (widV n : Nat)))] [] (fun ihE => ?_) (fun env T E => ?_)
  rotate_left 1
  simp (disch := first | exact dsc | fail) only [go_sem, seval] at E
  rotate_left 1
  · (repeat refine .z rfl ?_); refine .loopE [0] (fun w => [(3, .p (i64 w))]) (fun w => []) (fun w => True) (0) (widV n) (by omega) ?_ (by first | rfl | (simp (disch := first | exact dsc | fail) only [go_sem, seval] <;> rfl)) ?_ ?_ ?_
    · simp (disch := first | exact dsc | fail) only [go_sem, seval] <;> (repeat' (first | rfl | refine And.intro ?_ ?_))
    · exact trivial
    intro env J hQ; simp (disch := first | exact dsc | fail) only [go_sem, seval] at J
    rotate_left 1
    intro w env hw0 hw J hQ ihJ; simp (disch := first | exact dsc | fail) only [go_sem, seval] at J
    rotate_left 1
    · (repeat refine .z rfl ?_); refine .text ?_; simp (disch := first | exact dsc | fail) only [go_sem, seval, J, shl16, hno]
      (repeat refine .z rfl ?_); refine .ifF (by simp (disch := first | exact dsc | fail) only [go_sem, seval]) ?_
      first | (refine ihE _ _ ?_ ?_) | (refine .z rfl ?_; refine ihE _ _ ?_ ?_) | (refine .z rfl ?_; refine .z rfl ?_; refine ihE _ _ ?_ ?_) | (refine .z rfl ?_; refine .z rfl ?_; refine .z rfl ?_; refine ihE _ _ ?_ ?_)
      · simp (disch := first | exact dsc | fail) only [go_sem, seval, J] <;> (repeat' (first | rfl | refine And.intro ?_ ?_))
      · first | exact .mk _ rfl | exact .mk [] rfl | (apply Later.mk; simp (disch := first | exact dsc | fail) only [go_sem, seval, app_push, J]; exact rfl) | (apply Later.mk; simp (disch := first | exact dsc | fail) only [go_sem, seval, app_push, app_app, List.append_assoc, J] <;> (try rfl))
    · have hlt := widV_lt hw
      have hyes : decide (((2 ^ w : Nat) : Int) < (n : Int)) = true := by simp only [decide_eq_true_eq]; omega
      (repeat refine .z rfl ?_); refine .text ?_; simp (disch := first | exact dsc | fail) only [go_sem, seval, J, shl16, hyes]
      (repeat refine .z rfl ?_); refine .ifT (by simp (disch := first | exact dsc | fail) only [go_sem, seval]) ?_
      (repeat refine .z rfl ?_); refine .text ?_; simp (disch := first | exact dsc | fail) only [go_sem, seval, J]
      first | (refine ihJ _ _ ?_ trivial ?_) | (refine .z rfl ?_; refine ihJ _ _ ?_ trivial ?_) | (refine .z rfl ?_; refine .z rfl ?_; refine ihJ _ _ ?_ trivial ?_) | (refine .z rfl ?_; refine .z rfl ?_; refine .z rfl ?_; refine ihJ _ _ ?_ trivial ?_)
      · simp (disch := first | exact dsc | fail) only [go_sem, seval, J] <;> (repeat' (first | rfl | refine And.intro ?_ ?_))
      · first | rfl | (simp (disch := first | exact dsc | fail) only [go_sem, seval, J] <;> (try rfl))
  (repeat refine .z rfl ?_); refine .text ?_; simp (disch := first | exact dsc | fail) only [go_sem, seval, E, shl16, hno]
  (repeat refine .z rfl ?_); refine .ifF (by simp (disch := first | exact dsc | fail) only [go_sem, seval]) ?_
  refine .skip ?_
  (repeat refine .z rfl ?_); refine .text ?_; simp (disch := first | exact dsc | fail) only [go_sem, seval, E]
  (repeat refine .z rfl ?_); refine .rt Try.func53 (by rw [Try.results53]) (hR := ?_); simp (disch := first | exact dsc | fail) only [go_sem, seval]
  exact h

set_option maxHeartbeats 4000000 in
theorem R4_Log_spec (j : Nat) (hj : j ≤ 16) (H : Hp) (R : AV → Hp → Prop) (h : R (.p (i64 j)) H) : ACall Try.prog G 71 [.p (i64 (2 ^ j : Nat))] H R := by
  refine ACall.of_run (raw := []) Try.func71 rfl Try.ntmps71 (by simp) fun hbel => ?_
  (repeat refine .z rfl ?_); refine .text ?_; simp (disch := first | exact dsc | fail) only [go_sem, seval]
  (repeat refine .z rfl ?_); refine .text ?_; simp (disch := first | exact dsc | fail) only [go_sem, seval]
  (repeat refine .z rfl ?_); refine .loopE [0] (fun k => [(3, .p (i64 k))]) (fun k => []) (fun k => True) (0) (j) (by omega) ?_ (by first | rfl | (simp (disch := first | exact dsc | fail) only [go_sem, seval] <;> rfl)) ?_ ?_ ?_
  · simp (disch := first | exact dsc | fail) only [go_sem, seval] <;> (repeat' (first | rfl | refine And.intro ?_ ?_))
  · exact trivial
  intro env E hQ; simp (disch := first | exact dsc | fail) only [go_sem, seval] at E
  rotate_left 1
  intro k env hk0 hk E hQ ihE; simp (disch := first | exact dsc | fail) only [go_sem, seval] at E
  rotate_left 1
  · (repeat refine .z rfl ?_); refine .text ?_; simp (disch := first | exact dsc | fail) only [go_sem, seval, E]
    (repeat refine .z rfl ?_); refine .ifT (by simp (disch := first | exact dsc | fail) only [go_sem, seval]) ?_
    (repeat refine .z rfl ?_); refine .text ?_; simp (disch := first | exact dsc | fail) only [go_sem, seval, E, shl16, beq_self_eq_true]
    (repeat refine .z rfl ?_); refine .ifT (by simp (disch := first | exact dsc | fail) only [go_sem, seval]) ?_
    (repeat refine .z rfl ?_); refine .text ?_; simp (disch := first | exact dsc | fail) only [go_sem, seval, E]
    (repeat refine .z rfl ?_); refine .rt Try.func71 (by rw [Try.results71]) (hR := ?_); simp (disch := first | exact dsc | fail) only [go_sem, seval]
    exact h
  · have hne : (((2 ^ j : Nat) : Int) == ((2 ^ k : Nat) : Int)) = false := by
      have : 2 ^ k < 2 ^ j := Nat.pow_lt_pow_right (by omega) hk
      simp only [beq_eq_false_iff_ne]; omega
    (repeat refine .z rfl ?_); refine .text ?_; simp (disch := first | exact dsc | fail) only [go_sem, seval, E]
    (repeat refine .z rfl ?_); refine .ifT (by simp (disch := first | exact dsc | fail) only [go_sem, seval]) ?_
    (repeat refine .z rfl ?_); refine .text ?_; simp (disch := first | exact dsc | fail) only [go_sem, seval, E, shl16, hne]
    (repeat refine .z rfl ?_); refine .ifF (by simp (disch := first | exact dsc | fail) only [go_sem, seval]) ?_
    refine .skip ?_
    (repeat refine .z rfl ?_); refine .text ?_; simp (disch := first | exact dsc | fail) only [go_sem, seval, E]
    first | (refine ihE _ _ ?_ trivial ?_) | (refine .z rfl ?_; refine ihE _ _ ?_ trivial ?_) | (refine .z rfl ?_; refine .z rfl ?_; refine ihE _ _ ?_ trivial ?_) | (refine .z rfl ?_; refine .z rfl ?_; refine .z rfl ?_; refine ihE _ _ ?_ trivial ?_)
    · simp (disch := first | exact dsc | fail) only [go_sem, seval, E] <;> (repeat' (first | rfl | refine And.intro ?_ ?_))
    · first | rfl | (simp (disch := first | exact dsc | fail) only [go_sem, seval, E] <;> (try rfl))
end walks
end Go.Proofs.Ytjnbifkojpfdgaa

/-
  Sums and zeros of the reference: the plain functions and the walks.
-/
namespace Go.Proofs.Ytjnbifkojpfdgaa
open Go Go.AL

/-- Columns that fit a circuit: as many as it has inputs, all of length N. -/
structure Fits (c : Circ) (cols : List (List U)) (N : Nat) : Prop where
  n : (cols.length : Int) = c.inputs
  len : ∀ i, i < cols.length → (nth cols i).length = N

def outV (c : Circ) (cols : List (List U)) (r : Nat) : List U := rowV c (colsAt cols r) c.layers.length
def sumsV (c : Circ) (cols : List (List U)) : Nat → List U
  | 0 => List.replicate c.sums.toNat 0#64
  | r + 1 => tab (fun i => rAdd (nth (sumsV c cols r) i) (nth (outV c cols r) i)) c.sums.toNat
theorem sumsV_len {c : Circ} {cols : List (List U)} : ∀ r, (sumsV c cols r).length = c.sums.toNat
  | 0 => by simp [sumsV]
  | r + 1 => tab_len
/-- The sums while a row is added. -/
def sumP (a v : List U) (i n : Nat) : List U := tab (fun t => if t < i then rAdd (nth a t) (nth v t) else nth a t) n
theorem sumP_zero {a v : List U} {n : Nat} (h : a.length = n) : sumP a v 0 n = a := nth_ext (by rw [sumP, tab_len, h]) fun i hi => by
  rw [sumP, tab_len] at hi
  rw [sumP, nth_tab hi, if_neg (by omega)]
theorem sumP_len {a v : List U} {i n : Nat} : (sumP a v i n).length = n := tab_len
theorem sumP_at {a v : List U} {i n : Nat} (h : i < n) : nth (sumP a v i n) i = nth a i := by rw [sumP, nth_tab h, if_neg (by omega)]
theorem sumP_succ {a v : List U} {i n : Nat} (h : i < n) : (sumP a v i n).set i (rAdd (nth a i) (nth v i)) = sumP a v (i + 1) n := nth_ext (by simp [sumP, tab]) fun j hj => by
  rw [List.length_set, sumP_len] at hj
  by_cases e : i = j
  · subst e; rw [nth_set_eq rfl (by rw [sumP_len]; exact h), sumP, nth_tab hj, if_pos (by omega)]
  · rw [nth_set_ne e, sumP, sumP, nth_tab hj, nth_tab hj]
    by_cases e2 : j < i
    · rw [if_pos e2, if_pos (by omega)]
    · rw [if_neg e2, if_neg (by omega)]
theorem sumP_all {a v : List U} {n : Nat} : sumP a v n n = tab (fun t => rAdd (nth a t) (nth v t)) n := tab_congr fun i hi => by rw [if_pos hi]

def nzB (out : List U) (s : Nat) : Bool := (fst? (fun i => decide (s ≤ i) && nth out i != 0#64) out.length).isSome
def zerosO (c : Circ) (cols : List (List U)) (N : Nat) : Option Nat := fst? (fun r => nzB (outV c cols r) c.sums.toNat) N
def zRow (o : Option Nat) : Int := match o with | some r => r | none => 0
theorem nzB_true {out : List U} {s i : Nat} (h1 : s ≤ i) (h2 : i < out.length) (h3 : nth out i ≠ 0#64) : nzB out s = true := by
  unfold nzB
  cases hf : fst? (fun i => decide (s ≤ i) && nth out i != 0#64) out.length with
  | some j => rfl
  | none =>
    have := fst_none.1 hf i h2
    simp [h1, h3] at this
theorem nzB_false {out : List U} {s : Nat} (h : ∀ i, s ≤ i → i < out.length → nth out i = 0#64) : nzB out s = false := by
  unfold nzB
  cases hf : fst? (fun i => decide (s ≤ i) && nth out i != 0#64) out.length with
  | none => rfl
  | some j =>
    obtain ⟨h1, h2, _⟩ := fst_some.1 hf
    simp only [Bool.and_eq_true, decide_eq_true_eq, bne_iff_ne] at h2
    exact absurd (h j h2.1 h1) h2.2

theorem nzB_zero {out : List U} {s : Nat} (h : nzB out s = false) : ∀ i, s ≤ i → i < out.length → nth out i = 0#64 := fun i h1 h2 => by
  by_cases h3 : nth out i = 0#64
  · exact h3
  · rw [nzB_true h1 h2 h3] at h; cases h
section walks
variable {G : Globs}

set_option maxHeartbeats 4000000 in
theorem R16_Fit_spec (c : Circ) (hc : Ok c) (cols : List (List U)) (j : Nat) (hj : j ≤ 16) (hf : Fits c cols (2 ^ j)) (H : Hp) (R : AV → Hp → Prop) (h : R (.p (bo true)) H) :
    ACall Try.prog G 50 [.p (circ c), .p (.sl false 1 (pl (sle 1 w64) cols))] H R := by
  refine ACall.of_run (raw := []) Try.func50 rfl Try.ntmps50 (by simp) fun hbel => ?_
  have hn := hf.n
  have hi := hc.inp
  have h1 : ((cols.length : Int) != c.inputs) = false := by rw [hn]; simp
  have h2 : ((cols.length : Int) == 0) = false := by rw [beq_eq_false_iff_ne]; omega
  have h3 : decide ((j : Int) < 0) = false := by simp
  have h4 := hf.len 0 (by omega)
  (repeat refine .z rfl ?_); refine .text ?_; simp (disch := first | exact dsc | fail) only [go_sem, seval]
  (repeat refine .z rfl ?_); refine .text ?_; simp (disch := first | exact dsc | fail) only [go_sem, seval, h1, h2, h4]
  refine CallK.of (fun R h => R4_Log_spec j hj _ R h) ?_; simp (disch := first | exact dsc | fail) only [go_sem, seval, h3]
  (repeat refine .z rfl ?_); refine .ifF (by simp (disch := first | exact dsc | fail) only [go_sem, seval]) ?_
  refine .skip ?_
  (repeat refine .z rfl ?_); refine .text ?_; simp (disch := first | exact dsc | fail) only [go_sem, seval]
  (repeat refine .z rfl ?_); refine .loopE [1] (fun i => [(5, .p (i64 i))]) (fun i => []) (fun i => True) (0) (cols.length) (by omega) ?_ (by first | rfl | (simp (disch := first | exact dsc | fail) only [go_sem, seval] <;> rfl)) ?_ ?_ ?_
  · simp (disch := first | exact dsc | fail) only [go_sem, seval] <;> (repeat' (first | rfl | refine And.intro ?_ ?_))
  · exact trivial
  intro env E hQ; simp (disch := first | exact dsc | fail) only [go_sem, seval] at E
  rotate_left 1
  intro i env hi0 hi E hQ ihE; simp (disch := first | exact dsc | fail) only [go_sem, seval] at E
  rotate_left 1
  · (repeat refine .z rfl ?_); refine .text ?_; simp (disch := first | exact dsc | fail) only [go_sem, seval, E]
    (repeat refine .z rfl ?_); refine .ifF (by simp (disch := first | exact dsc | fail) only [go_sem, seval]) ?_
    (repeat refine .z rfl ?_); refine .text ?_; simp (disch := first | exact dsc | fail) only [go_sem, seval, E]
    (repeat refine .z rfl ?_); refine .rt Try.func50 (by rw [Try.results50]) (hR := ?_); simp (disch := first | exact dsc | fail) only [go_sem, seval]
    exact h
  · have h5 := hf.len i hi
    (repeat refine .z rfl ?_); refine .text ?_; simp (disch := first | exact dsc | fail) only [go_sem, seval, E]
    (repeat refine .z rfl ?_); refine .ifT (by simp (disch := first | exact dsc | fail) only [go_sem, seval]) ?_
    (repeat refine .z rfl ?_); refine .open [] follows (by kernel_rfl) ?_; simp (disch := first | exact dsc | fail) only [go_sem, seval, E, h4, h5, bne_self_eq_false]
    (repeat refine .z rfl ?_); refine .ifF (by simp (disch := first | exact dsc | fail) only [go_sem, seval]) ?_
    refine .skip ?_
    (repeat refine .z rfl ?_); refine .text ?_; simp (disch := first | exact dsc | fail) only [go_sem, seval, E]
    first | (refine ihE _ _ ?_ trivial ?_) | (refine .z rfl ?_; refine ihE _ _ ?_ trivial ?_) | (refine .z rfl ?_; refine .z rfl ?_; refine ihE _ _ ?_ trivial ?_) | (refine .z rfl ?_; refine .z rfl ?_; refine .z rfl ?_; refine ihE _ _ ?_ trivial ?_)
    · simp (disch := first | exact dsc | fail) only [go_sem, seval, E] <;> (repeat' (first | rfl | refine And.intro ?_ ?_))
    · first | rfl | (simp (disch := first | exact dsc | fail) only [go_sem, seval, E] <;> (try rfl))

set_option maxHeartbeats 4000000 in
theorem R16_Sums_spec (c : Circ) (hv : Vd c) (cols : List (List U)) (j : Nat) (hj : j ≤ 16) (hf : Fits c cols (2 ^ j)) (H : Hp) (R : AV → Hp → Prop) (h : R (.tup [.p (.sl false 1 (pl w64 (sumsV c cols (2 ^ j)))), .p (i64 0)]) H) :
    ACall Try.prog G 54 [.p (circ c), .p (.sl false 1 (pl (sle 1 w64) cols))] H R := by
  refine ACall.of_run (raw := []) Try.func54 rfl Try.ntmps54 (by simp) fun hbel => ?_
  have hc := hv.ok
  have hn := hf.n
  have hi := hc.inp
  have hs0 := hc.sums
  have hl0 := hc.len
  have hsm := hv.sm
  obtain ⟨s, hs⟩ : ∃ s : Nat, c.sums = s := ⟨c.sums.toNat, by omega⟩
  have hst : c.sums.toNat = s := by omega
  have hcirc : (⟨c.inputs, c.layers, (s : Int)⟩ : Circ) = c := by rw [← hs]
  have h4 := hf.len 0 (by omega)
  obtain ⟨N, hN⟩ : ∃ N, 2 ^ j = N := ⟨_, rfl⟩
  have hNb : N ≤ 65536 := by rw [← hN]; exact Nat.pow_le_pow_right (n := 2) (by omega) hj
  have hz : List.replicate s 0#64 = sumsV c cols 0 := by rw [sumsV, hst]
  (repeat refine .z rfl ?_); refine .text ?_; simp (disch := first | exact dsc | fail) only [go_sem, seval]
  (repeat refine .z rfl ?_); refine .text ?_; simp (disch := first | exact dsc | fail) only [go_sem, seval]
  refine CallK.of (fun R h => R16_Valid_spec c hv _ R h) ?_; simp (disch := first | exact dsc | fail) only [go_sem, seval]
  (repeat refine .z rfl ?_); refine .text ?_; simp (disch := first | exact dsc | fail) only [go_sem, seval]
  (repeat refine .z rfl ?_); refine .ifF (by simp (disch := first | exact dsc | fail) only [go_sem, seval]) ?_
  refine .skip ?_
  (repeat refine .z rfl ?_); refine .text ?_; simp (disch := first | exact dsc | fail) only [go_sem, seval]
  refine CallK.of (fun R h => R16_Fit_spec c hc cols j hj hf _ R h) ?_; simp (disch := first | exact dsc | fail) only [go_sem, seval]
  (repeat refine .z rfl ?_); refine .ifF (by simp (disch := first | exact dsc | fail) only [go_sem, seval]) ?_
  refine .skip ?_
  rw [hN] at h h4
  (repeat refine .z rfl ?_); refine .text ?_; simp (disch := first | exact dsc | fail) only [go_sem, seval, hs, hz]
  (repeat refine .z rfl ?_); refine .text ?_; simp (disch := first | exact dsc | fail) only [go_sem, seval]
  (repeat refine .z rfl ?_); refine .loopE [1, 2, 7] (fun r => [(8, .p (i64 r))]) (fun r => [(H.n+1, .cells (cl w64 (sumsV c cols r)))]) (fun r => True) (0) (N) (by omega) ?_ (by first | rfl | (simp (disch := first | exact dsc | fail) only [go_sem, seval] <;> rfl)) ?_ ?_ ?_
  · simp (disch := first | exact dsc | fail) only [go_sem, seval] <;> (repeat' (first | rfl | refine And.intro ?_ ?_))
  · exact trivial
  intro env E hQ; simp (disch := first | exact dsc | fail) only [go_sem, seval] at E
  rotate_left 1
  intro r env hr0 hr E hQ ihE; simp (disch := first | exact dsc | fail) only [go_sem, seval] at E
  rotate_left 1
  · (repeat refine .z rfl ?_); refine .text ?_; simp (disch := first | exact dsc | fail) only [go_sem, seval, E, h4]
    (repeat refine .z rfl ?_); refine .ifF (by simp (disch := first | exact dsc | fail) only [go_sem, seval]) ?_
    have hsl := sumsV_len (c := c) (cols := cols) N
    rw [hst] at hsl
    (repeat refine .z rfl ?_); refine .frzS 7 (by simp (disch := first | exact dsc | fail) only [go_sem, seval, E]; rfl) (by simp (disch := first | exact dsc | fail) only [go_sem, seval, E] <;> rfl) (fun _ => rfl) (by first | exact dsc | fail) ?_; (try simp (disch := first | exact dsc | fail) only [go_sem, seval, E])
    (repeat refine .z rfl ?_); refine .text ?_; simp (disch := first | exact dsc | fail) only [go_sem, seval, E]
    (repeat refine .z rfl ?_); refine .rt Try.func54 (by rw [Try.results54]) (hx := by simp (disch := first | exact dsc | fail) only [go_sem, seval, List.take_length]; rfl) (hR := ?_); simp (disch := first | exact dsc | fail) only [go_sem, seval, List.take_length]
    exact h
  · have hsl := sumsV_len (c := c) (cols := cols) r
    rw [hst] at hsl
    have hout : outV c cols r = rowV c (colsAt cols r) c.layers.length := rfl
    have hol : (outV c cols r).length = (nth c.layers (c.layers.length - 1)).length := by
      rw [hout, show c.layers.length = c.layers.length - 1 + 1 by omega, rowV_len, Nat.add_sub_cancel]
    have hx : ((c.layers.length : Int) + 1 - 1).toNat = c.layers.length := by omega
    have hrw : nth (tab (rowV c (colsAt cols r)) (c.layers.length + 1)) c.layers.length = outV c cols r := nth_tab (by omega)
    have hsucc : sumsV c cols (r + 1) = sumP (sumsV c cols r) (outV c cols r) s s := by rw [sumP_all, sumsV, hst]
    have hp0 : sumsV c cols r = sumP (sumsV c cols r) (outV c cols r) 0 s := (sumP_zero hsl).symm
    (repeat refine .z rfl ?_); refine .text ?_; simp (disch := first | exact dsc | fail) only [go_sem, seval, E, h4]
    (repeat refine .z rfl ?_); refine .ifT (by simp (disch := first | exact dsc | fail) only [go_sem, seval]) ?_
    (repeat refine .z rfl ?_); refine .open [] follows (by kernel_rfl) ?_; simp (disch := first | exact dsc | fail) only [go_sem, seval, E, hcirc]
    refine CallD.still (fun R h => R16_Inputs_spec cols (by omega) r (fun i hi => by have := hf.len i hi; omega) _ R h) ?_; simp (disch := first | exact dsc | fail) only [go_sem, seval, E, hcirc]
    refine CallD.still (fun R h => R16_Row_spec c hc (colsAt cols r) (by rw [colsAt_len]; exact hn) _ R h) ?_; simp (disch := first | exact dsc | fail) only [go_sem, seval, E]
    (repeat refine .z rfl ?_); refine .text ?_; simp (disch := first | exact dsc | fail) only [go_sem, seval, E]
    (repeat refine .zs rfl ?_); refine .cutE [1, 2, 7, 8] [] [(H.n+1, .cells (cl w64 (sumsV c cols (r + 1))))] (fun ihJ => ?_) (fun env J => ?_)
    rotate_left 1
    simp (disch := first | exact dsc | fail) only [go_sem, seval, E] at J
    rotate_left 1
    · (repeat refine .z rfl ?_); refine .loopE [1, 2, 7, 8, 9] (fun i => [(10, .p (i64 i))]) (fun i => [(H.n+1, .cells (cl w64 (sumP (sumsV c cols r) (outV c cols r) i s)))]) (fun i => True) (0) (s) (by omega) ?_ (by first | rfl | (simp (disch := first | exact dsc | fail) only [go_sem, seval, E, ← hp0] <;> rfl)) ?_ ?_ ?_
      · simp (disch := first | exact dsc | fail) only [go_sem, seval, E, ← hp0] <;> (repeat' (first | rfl | refine And.intro ?_ ?_))
      · exact trivial
      intro env K hQ; simp (disch := first | exact dsc | fail) only [go_sem, seval, E, ← hp0] at K
      rotate_left 1
      intro i env hi0 hi K hQ ihK; simp (disch := first | exact dsc | fail) only [go_sem, seval, E, ← hp0] at K
      rotate_left 1
      · (repeat refine .z rfl ?_); refine .text ?_; simp (disch := first | exact dsc | fail) only [go_sem, seval, K, hs]
        (repeat refine .z rfl ?_); refine .ifF (by simp (disch := first | exact dsc | fail) only [go_sem, seval]) ?_
        first | (refine ihJ _ _ ?_ ?_) | (refine .z rfl ?_; refine ihJ _ _ ?_ ?_) | (refine .z rfl ?_; refine .z rfl ?_; refine ihJ _ _ ?_ ?_) | (refine .z rfl ?_; refine .z rfl ?_; refine .z rfl ?_; refine ihJ _ _ ?_ ?_)
        · simp (disch := first | exact dsc | fail) only [go_sem, seval, K, E, hsucc] <;> (repeat' (first | rfl | refine And.intro ?_ ?_))
        · first | rfl | (simp (disch := first | exact dsc | fail) only [go_sem, seval, K, E, hsucc] <;> (try rfl))
      · have hpl : (sumP (sumsV c cols r) (outV c cols r) i s).length = s := sumP_len
        have hat := sumP_at (a := sumsV c cols r) (v := outV c cols r) hi
        have hset := sumP_succ (a := sumsV c cols r) (v := outV c cols r) hi
        (repeat refine .z rfl ?_); refine .text ?_; simp (disch := first | exact dsc | fail) only [go_sem, seval, K, hs]
        (repeat refine .z rfl ?_); refine .ifT (by simp (disch := first | exact dsc | fail) only [go_sem, seval]) ?_
        (repeat refine .z rfl ?_); refine .open [17] follows (by kernel_rfl) ?_; simp (disch := first | exact dsc | fail) only [go_sem, seval, K, hx, hrw, hat]
        refine CallD.still (fun R h => rAdd_spec _ _ _ R h) ?_; simp (disch := first | exact dsc | fail) only [go_sem, seval, K, hset]
        (repeat refine .z rfl ?_); refine .text ?_; simp (disch := first | exact dsc | fail) only [go_sem, seval, K]
        first | (refine ihK _ _ ?_ trivial ?_) | (refine .z rfl ?_; refine ihK _ _ ?_ trivial ?_) | (refine .z rfl ?_; refine .z rfl ?_; refine ihK _ _ ?_ trivial ?_) | (refine .z rfl ?_; refine .z rfl ?_; refine .z rfl ?_; refine ihK _ _ ?_ trivial ?_)
        · simp (disch := first | exact dsc | fail) only [go_sem, seval, K, E] <;> (repeat' (first | rfl | refine And.intro ?_ ?_))
        · first | rfl | (simp (disch := first | exact dsc | fail) only [go_sem, seval, K, E] <;> (try rfl))
    (repeat refine .z rfl ?_); refine .text ?_; simp (disch := first | exact dsc | fail) only [go_sem, seval, J]
    first | (refine ihE _ _ ?_ trivial ?_) | (refine .z rfl ?_; refine ihE _ _ ?_ trivial ?_) | (refine .z rfl ?_; refine .z rfl ?_; refine ihE _ _ ?_ trivial ?_) | (refine .z rfl ?_; refine .z rfl ?_; refine .z rfl ?_; refine ihE _ _ ?_ trivial ?_)
    · simp (disch := first | exact dsc | fail) only [go_sem, seval, J, E] <;> (repeat' (first | rfl | refine And.intro ?_ ?_))
    · first | rfl | (simp (disch := first | exact dsc | fail) only [go_sem, seval, J, E] <;> (try rfl))

set_option maxHeartbeats 4000000 in
theorem R16_Zeros_spec (c : Circ) (hv : Vd c) (cols : List (List U)) (N : Nat) (hN : N ≤ 65536) (hf : Fits c cols N) (H : Hp) (R : AV → Hp → Prop) (h : R (.tup [.p (i64 (zRow (zerosO c cols N))), .p (bo (zerosO c cols N).isSome)]) H) :
    ACall Try.prog G 55 [.p (circ c), .p (.sl false 1 (pl (sle 1 w64) cols))] H R := by
  refine ACall.of_run (raw := []) Try.func55 rfl Try.ntmps55 (by simp) fun hbel => ?_
  have hc := hv.ok
  have hn := hf.n
  have hi := hc.inp
  have hs0 := hc.sums
  have hl0 := hc.len
  have hsm := hv.sm
  obtain ⟨s, hs⟩ : ∃ s : Nat, c.sums = s := ⟨c.sums.toNat, by omega⟩
  have hst : c.sums.toNat = s := by omega
  have hcirc : (⟨c.inputs, c.layers, (s : Int)⟩ : Circ) = c := by rw [← hs]
  have h4 := hf.len 0 (by omega)
  (repeat refine .z rfl ?_); refine .text ?_; simp (disch := first | exact dsc | fail) only [go_sem, seval]
  (repeat refine .z rfl ?_); refine .text ?_; simp (disch := first | exact dsc | fail) only [go_sem, seval]
  (repeat refine .z rfl ?_); refine .loopE [1, 2] (fun r => [(6, .p (i64 r))]) (fun r => []) (fun r => ∀ q, q < r → nzB (outV c cols q) s = false) (0) (N) (by omega) ?_ (by first | rfl | (simp (disch := first | exact dsc | fail) only [go_sem, seval] <;> rfl)) ?_ ?_ ?_
  · simp (disch := first | exact dsc | fail) only [go_sem, seval] <;> (repeat' (first | rfl | refine And.intro ?_ ?_))
  rotate_left 1
  intro env E hQ; simp (disch := first | exact dsc | fail) only [go_sem, seval] at E
  rotate_left 1
  intro r env hr0 hr E hQ ihE; simp (disch := first | exact dsc | fail) only [go_sem, seval] at E
  rotate_left 1
  · exact fun q hq => absurd hq (by omega)
  · rw [zerosO, hst, fst_none.2 hQ] at h
    (repeat refine .z rfl ?_); refine .text ?_; simp (disch := first | exact dsc | fail) only [go_sem, seval, E, h4]
    (repeat refine .z rfl ?_); refine .ifF (by simp (disch := first | exact dsc | fail) only [go_sem, seval]) ?_
    (repeat refine .z rfl ?_); refine .text ?_; simp (disch := first | exact dsc | fail) only [go_sem, seval]
    (repeat refine .z rfl ?_); refine .rt Try.func55 (by rw [Try.results55]) (hR := ?_); simp (disch := first | exact dsc | fail) only [go_sem, seval]
    exact h
  · have hout : outV c cols r = rowV c (colsAt cols r) c.layers.length := rfl
    have hol : (outV c cols r).length = (nth c.layers (c.layers.length - 1)).length := by
      rw [hout, show c.layers.length = c.layers.length - 1 + 1 by omega, rowV_len, Nat.add_sub_cancel]
    have hor := (hc.row (c.layers.length - 1) (by omega)).2
    have hx : ((c.layers.length : Int) + 1 - 1).toNat = c.layers.length := by omega
    have hrw : nth (tab (rowV c (colsAt cols r)) (c.layers.length + 1)) c.layers.length = outV c cols r := nth_tab (by omega)
    have hQr := hQ
    (repeat refine .z rfl ?_); refine .text ?_; simp (disch := first | exact dsc | fail) only [go_sem, seval, E, h4]
    (repeat refine .z rfl ?_); refine .ifT (by simp (disch := first | exact dsc | fail) only [go_sem, seval]) ?_
    (repeat refine .z rfl ?_); refine .open [] follows (by kernel_rfl) ?_; simp (disch := first | exact dsc | fail) only [go_sem, seval, E, hcirc]
    refine CallD.still (fun R h => R16_Inputs_spec cols (by omega) r (fun i hi => by have := hf.len i hi; omega) _ R h) ?_; simp (disch := first | exact dsc | fail) only [go_sem, seval, E, hcirc]
    refine CallD.still (fun R h => R16_Row_spec c hc (colsAt cols r) (by rw [colsAt_len]; exact hn) _ R h) ?_; simp (disch := first | exact dsc | fail) only [go_sem, seval, E]
    (repeat refine .z rfl ?_); refine .text ?_; simp (disch := first | exact dsc | fail) only [go_sem, seval, E, hx, hrw]
    (repeat refine .z rfl ?_); refine .text ?_; simp (disch := first | exact dsc | fail) only [go_sem, seval, E, hs]
    have hlen : s ≤ (outV c cols r).length := by omega
    cases hnz : nzB (outV c cols r) s with
    | false =>
      have hz := nzB_zero hnz
      (repeat refine .zs rfl ?_); refine .cutE [1, 2, 6] [] [] (fun ihJ => ?_) (fun env J => ?_)
      rotate_left 1
      simp (disch := first | exact dsc | fail) only [go_sem, seval, E] at J
      rotate_left 1
      · (repeat refine .z rfl ?_); refine .loopE [1, 2, 6, 8] (fun i => [(9, .p (i64 i))]) (fun i => []) (fun i => True) (s) ((outV c cols r).length) (by omega) ?_ (by first | rfl | (simp (disch := first | exact dsc | fail) only [go_sem, seval, E] <;> rfl)) ?_ ?_ ?_
        · simp (disch := first | exact dsc | fail) only [go_sem, seval, E] <;> (repeat' (first | rfl | refine And.intro ?_ ?_))
        · exact trivial
        intro env K hQ; simp (disch := first | exact dsc | fail) only [go_sem, seval, E] at K
        rotate_left 1
        intro i env hi0 hi K hQ ihK; simp (disch := first | exact dsc | fail) only [go_sem, seval, E] at K
        rotate_left 1
        · (repeat refine .z rfl ?_); refine .text ?_; simp (disch := first | exact dsc | fail) only [go_sem, seval, K]
          (repeat refine .z rfl ?_); refine .ifF (by simp (disch := first | exact dsc | fail) only [go_sem, seval]) ?_
          first | (refine ihJ _ _ ?_ ?_) | (refine .z rfl ?_; refine ihJ _ _ ?_ ?_) | (refine .z rfl ?_; refine .z rfl ?_; refine ihJ _ _ ?_ ?_) | (refine .z rfl ?_; refine .z rfl ?_; refine .z rfl ?_; refine ihJ _ _ ?_ ?_)
          · simp (disch := first | exact dsc | fail) only [go_sem, seval, K, E] <;> (repeat' (first | rfl | refine And.intro ?_ ?_))
          · first | rfl | (simp (disch := first | exact dsc | fail) only [go_sem, seval, K, E] <;> (try rfl))
        · have hzi : (nth (outV c cols r) i != 0#64) = false := by rw [hz i hi0 hi]; rfl
          (repeat refine .z rfl ?_); refine .text ?_; simp (disch := first | exact dsc | fail) only [go_sem, seval, K]
          (repeat refine .z rfl ?_); refine .ifT (by simp (disch := first | exact dsc | fail) only [go_sem, seval]) ?_
          (repeat refine .z rfl ?_); refine .text ?_; simp (disch := first | exact dsc | fail) only [go_sem, seval, K, hzi]
          (repeat refine .z rfl ?_); refine .ifF (by simp (disch := first | exact dsc | fail) only [go_sem, seval]) ?_
          refine .skip ?_
          (repeat refine .z rfl ?_); refine .text ?_; simp (disch := first | exact dsc | fail) only [go_sem, seval, K]
          first | (refine ihK _ _ ?_ trivial ?_) | (refine .z rfl ?_; refine ihK _ _ ?_ trivial ?_) | (refine .z rfl ?_; refine .z rfl ?_; refine ihK _ _ ?_ trivial ?_) | (refine .z rfl ?_; refine .z rfl ?_; refine .z rfl ?_; refine ihK _ _ ?_ trivial ?_)
          · simp (disch := first | exact dsc | fail) only [go_sem, seval, K, E] <;> (repeat' (first | rfl | refine And.intro ?_ ?_))
          · first | rfl | (simp (disch := first | exact dsc | fail) only [go_sem, seval, K, E] <;> (try rfl))
      have hqq : ∀ q, q < r + 1 → nzB (outV c cols q) s = false := fun q hq => by
        rcases Nat.lt_or_ge q r with h1 | h1
        · exact hQr q h1
        · have : q = r := by omega
          rw [this]; exact hnz
      (repeat refine .z rfl ?_); refine .text ?_; simp (disch := first | exact dsc | fail) only [go_sem, seval, J]
      first | (refine ihE _ _ ?_ hqq ?_) | (refine .z rfl ?_; refine ihE _ _ ?_ hqq ?_) | (refine .z rfl ?_; refine .z rfl ?_; refine ihE _ _ ?_ hqq ?_) | (refine .z rfl ?_; refine .z rfl ?_; refine .z rfl ?_; refine ihE _ _ ?_ hqq ?_)
      · simp (disch := first | exact dsc | fail) only [go_sem, seval, J, E, hs] <;> (repeat' (first | rfl | refine And.intro ?_ ?_))
      · first | rfl | (simp (disch := first | exact dsc | fail) only [go_sem, seval, J, E, hs] <;> (try rfl))
    | true =>
      have hfound : zerosO c cols N = some r := by rw [zerosO, hst]; exact fst_some.2 ⟨hr, hnz, hQr⟩
      rw [hfound] at h
      (repeat refine .z rfl ?_); refine .loopE [1, 2, 6, 8] (fun i => [(9, .p (i64 i))]) (fun i => []) (fun i => ∀ q, s ≤ q → q < i → nth (outV c cols r) q = 0#64) (s) ((outV c cols r).length) (by omega) ?_ (by first | rfl | (simp (disch := first | exact dsc | fail) only [go_sem, seval, E] <;> rfl)) ?_ ?_ ?_
      · simp (disch := first | exact dsc | fail) only [go_sem, seval, E] <;> (repeat' (first | rfl | refine And.intro ?_ ?_))
      rotate_left 1
      intro env K hQ; simp (disch := first | exact dsc | fail) only [go_sem, seval, E] at K
      rotate_left 1
      intro i env hi0 hi K hQ ihK; simp (disch := first | exact dsc | fail) only [go_sem, seval, E] at K
      rotate_left 1
      · exact fun q h1 h2 => absurd h2 (by omega)
      · rw [nzB_false fun q h1 h2 => hQ q h1 h2] at hnz
        cases hnz
      · (repeat refine .z rfl ?_); refine .text ?_; simp (disch := first | exact dsc | fail) only [go_sem, seval, K]
        (repeat refine .z rfl ?_); refine .ifT (by simp (disch := first | exact dsc | fail) only [go_sem, seval]) ?_
        by_cases hzi : nth (outV c cols r) i = 0#64
        · have hzb : (nth (outV c cols r) i != 0#64) = false := by rw [hzi]; rfl
          (repeat refine .z rfl ?_); refine .text ?_; simp (disch := first | exact dsc | fail) only [go_sem, seval, K, hzb]
          (repeat refine .z rfl ?_); refine .ifF (by simp (disch := first | exact dsc | fail) only [go_sem, seval]) ?_
          refine .skip ?_
          (repeat refine .z rfl ?_); refine .text ?_; simp (disch := first | exact dsc | fail) only [go_sem, seval, K]
          have hqq : ∀ q, s ≤ q → q < i + 1 → nth (outV c cols r) q = 0#64 := fun q h1 h2 => by
            rcases Nat.lt_or_ge q i with h3 | h3
            · exact hQ q h1 h3
            · have : q = i := by omega
              rw [this]; exact hzi
          first | (refine ihK _ _ ?_ hqq ?_) | (refine .z rfl ?_; refine ihK _ _ ?_ hqq ?_) | (refine .z rfl ?_; refine .z rfl ?_; refine ihK _ _ ?_ hqq ?_) | (refine .z rfl ?_; refine .z rfl ?_; refine .z rfl ?_; refine ihK _ _ ?_ hqq ?_)
          · simp (disch := first | exact dsc | fail) only [go_sem, seval, K, E, hs] <;> (repeat' (first | rfl | refine And.intro ?_ ?_))
          · first | rfl | (simp (disch := first | exact dsc | fail) only [go_sem, seval, K, E, hs] <;> (try rfl))
        · have hzb : (nth (outV c cols r) i != 0#64) = true := by simpa using hzi
          (repeat refine .z rfl ?_); refine .text ?_; simp (disch := first | exact dsc | fail) only [go_sem, seval, K, hzb]
          (repeat refine .z rfl ?_); refine .ifT (by simp (disch := first | exact dsc | fail) only [go_sem, seval]) ?_
          (repeat refine .z rfl ?_); refine .text ?_; simp (disch := first | exact dsc | fail) only [go_sem, seval, K]
          (repeat refine .z rfl ?_); refine .rt Try.func55 (by rw [Try.results55]) (hR := ?_); simp (disch := first | exact dsc | fail) only [go_sem, seval]
          exact h
end walks
end Go.Proofs.Ytjnbifkojpfdgaa

/-
  The normal form of folded gates; folding twice changes nothing more.
-/
namespace Go.Proofs.Ytjnbifkojpfdgaa
open Go Go.AL

structure NF (b : Bool) (p : List Gate) (x : Gate) : Prop where
  l0 : usesL x = false → x.l = 0
  r0 : usesR x = false → x.r = 0
  rl : usesR x = true → usesL x = true ∧ x.l ≤ x.r
  eq : x.l = x.r → x.b = 0#64
  kl : b = false → usesL x = true → konst (nth p x.l.toNat) = false
  kr : b = false → usesR x = true → konst (nth p x.r.toNat) = false

/-- Operands that are used are not constant. -/
def KP (b : Bool) (p : List Gate) (x : Gate) : Prop := b = false → (usesL x = true → konst (nth p x.l.toNat) = false) ∧ (usesR x = true → konst (nth p x.r.toNat) = false)

theorem kp_fg {b : Bool} {p : List Gate} {g : Gate} (hp : ∀ j, j < p.length → fvG (nth p j)) : KP b p (fg2 b p (fg1 b p g)) := by
  rintro rfl
  have h1 : (fg1 false p g).l = g.l ∧ (fg1 false p g).r = g.r := fg1_lr _ _ _
  have h2 : konst (nth p g.l.toNat) = true → (fg1 false p g).c = 0#64 ∧ (fg1 false p g).a = 0#64 := fun h => by simp [fg1, h]
  have hd : valid (nth p g.r.toNat).d = true := (fv_nth hp _).2.2.2
  generalize fg1 false p g = y at h1 h2
  unfold fg2
  by_cases hr : konst (nth p y.r.toNat) = true
  · rw [if_pos (by simp [hr])]
    refine ⟨fun hu => ?_, fun hu => by simp [usesR] at hu⟩
    by_cases hl : konst (nth p g.l.toNat) = true
    · obtain ⟨c0, a0⟩ := h2 hl
      exfalso
      simp only [usesL, c0, a0] at hu
      rw [h1.2, rMul_zero hd, rAdd_zero zero_valid] at hu
      simp at hu
    · show konst (nth p y.l.toNat) = false
      rw [h1.1]; simpa using hl
  · rw [if_neg (by simp [hr])]
    refine ⟨fun hu => ?_, fun hu => by simpa using hr⟩
    by_cases hl : konst (nth p g.l.toNat) = true
    · obtain ⟨c0, a0⟩ := h2 hl
      simp [usesL, c0, a0] at hu
    · rw [h1.1]; simpa using hl

theorem usesL_mk {l r : Int} {c a b d : U} : usesL ⟨l, r, c, a, b, d⟩ = (c != 0#64 || a != 0#64) := rfl
theorem usesR_mk {l r : Int} {c a b d : U} : usesR ⟨l, r, c, a, b, d⟩ = (c != 0#64 || b != 0#64) := rfl

theorem nf_tail {b : Bool} {p : List Gate} {y : Gate} (hy : KP b p y) : NF b p (m5 (m4 (n3 (m2 (m1 y))))) := by
  -- after m1
  have h1 : KP b p (m1 y) ∧ ((m1 y).l = (m1 y).r → (m1 y).b = 0#64) := by
    unfold m1
    by_cases e : y.l = y.r
    · rw [if_pos (by simpa using e)]
      refine ⟨fun hb => ?_, fun _ => rfl⟩
      obtain ⟨k1, k2⟩ := hy hb
      refine ⟨fun hu => ?_, fun hu => ?_⟩
      · show konst (nth p y.l.toNat) = false
        by_cases hl : usesL y = true
        · exact k1 hl
        · rw [e]
          refine k2 ?_
          by_cases hr : usesR y = true
          · exact hr
          · exfalso
            simp only [usesL, usesR, Bool.or_eq_true, bne_iff_ne, not_or, Decidable.not_not] at hl hr
            rw [usesL_mk, hl.1, hl.2, hr.2] at hu
            simp [rAdd_zero zero_valid] at hu
      · show konst (nth p y.r.toNat) = false
        rw [usesR_mk] at hu
        have hc : y.c != 0#64 := by simpa using hu
        exact k2 (by simp [usesR, hc])
    · rw [if_neg (by simpa using e)]
      exact ⟨hy, fun h => absurd h e⟩
  generalize m1 y = y1 at h1
  -- after m2
  have h2 : KP b p (m2 y1) ∧ ((m2 y1).l = (m2 y1).r → (m2 y1).b = 0#64) ∧ (usesR (m2 y1) = true → usesL (m2 y1) = true) := by
    unfold m2
    by_cases e : (!usesL y1 && usesR y1) = true
    · rw [if_pos e]
      simp only [Bool.and_eq_true, Bool.not_eq_true'] at e
      have hc : y1.c = 0#64 := by
        have := e.1; simp only [usesL, Bool.or_eq_false_iff, bne_eq_false_iff_eq] at this; exact this.1
      refine ⟨fun hb => ⟨fun _ => (h1.1 hb).2 e.2, fun hu => ?_⟩, fun _ => rfl, fun hu => ?_⟩
      · rw [usesR_mk, hc] at hu; simp at hu
      · rw [usesR_mk, hc] at hu; simp at hu
    · rw [if_neg e]
      refine ⟨h1.1, h1.2, fun hu => ?_⟩
      by_cases hl : usesL y1 = true
      · exact hl
      · exfalso; apply e; simp [hu]; simpa using hl
  generalize m2 y1 = y2 at h2
  obtain ⟨k, he, hrl⟩ := h2
  -- after n3
  have h3 : KP b p (n3 y2) ∧ ((n3 y2).l = (n3 y2).r → (n3 y2).b = 0#64) ∧ (usesR (n3 y2) = true → usesL (n3 y2) = true) ∧ (usesL (n3 y2) = false → (n3 y2).l = 0) := by
    unfold n3
    by_cases e : usesL y2 = true
    · rw [if_neg (by simp [e])]
      exact ⟨k, he, hrl, fun h => by rw [e] at h; cases h⟩
    · have e' : usesL y2 = false := by simpa using e
      have er : usesR y2 = false := by
        cases h : usesR y2 with
        | false => rfl
        | true => exact absurd (hrl h) e
      rw [if_pos (by simp [e'])]
      have hc : y2.c = 0#64 ∧ y2.b = 0#64 := by
        simp only [usesR, Bool.or_eq_false_iff, bne_eq_false_iff_eq] at er; exact er
      refine ⟨fun hb => ⟨fun hu => ?_, fun hu => ?_⟩, fun _ => hc.2, fun hu => ?_, fun _ => rfl⟩
      · have : usesL y2 = true := hu
        exact absurd this e
      · have : usesR y2 = true := hu
        rw [er] at this; cases this
      · have : usesR y2 = true := hu
        rw [er] at this; cases this
  generalize n3 y2 = y3 at h3
  obtain ⟨k, he, hrl, hl0⟩ := h3
  have h4 : KP b p (m4 y3) ∧ ((m4 y3).l = (m4 y3).r → (m4 y3).b = 0#64) ∧ (usesR (m4 y3) = true → usesL (m4 y3) = true) ∧ (usesL (m4 y3) = false → (m4 y3).l = 0) ∧ (usesR (m4 y3) = false → (m4 y3).r = 0) := by
    unfold m4
    by_cases e : usesR y3 = true
    · rw [if_neg (by simp [e])]
      exact ⟨k, he, hrl, hl0, fun h => by rw [e] at h; cases h⟩
    · have er : usesR y3 = false := by simpa using e
      rw [if_pos (by simp [er])]
      have hc : y3.c = 0#64 ∧ y3.b = 0#64 := by
        simp only [usesR, Bool.or_eq_false_iff, bne_eq_false_iff_eq] at er; exact er
      refine ⟨fun hb => ⟨fun hu => (k hb).1 hu, fun hu => ?_⟩, fun _ => hc.2, fun hu => ?_, hl0, fun _ => rfl⟩
      · have : usesR y3 = true := hu
        rw [er] at this; cases this
      · have : usesR y3 = true := hu
        rw [er] at this; cases this
  generalize m4 y3 = y4 at h4
  obtain ⟨k, he, hrl, hl0, hr0⟩ := h4
  unfold m5
  by_cases e : (usesR y4 && decide (y4.r < y4.l)) = true
  · rw [if_pos e]
    simp only [Bool.and_eq_true, decide_eq_true_eq] at e
    have e1 : usesL (swp y4) = true := e.1
    have e2 : usesR (swp y4) = true := hrl e.1
    refine ⟨fun h => (by rw [e1] at h; cases h), fun h => (by rw [e2] at h; cases h), fun _ => ⟨e1, ?_⟩, fun h => ?_, fun hb _ => (k hb).2 e.1, fun hb _ => (k hb).1 (hrl e.1)⟩
    · show y4.r ≤ y4.l; omega
    · have : y4.r = y4.l := h
      omega
  · rw [if_neg e]
    refine ⟨hl0, hr0, fun hu => ⟨hrl hu, ?_⟩, he, fun hb => (k hb).1, fun hb => (k hb).2⟩
    simp only [hu, Bool.true_and, decide_eq_true_eq] at e
    omega

theorem foldG_nf {b : Bool} {p : List Gate} {g : Gate} (hp : ∀ j, j < p.length → fvG (nth p j)) : NF b p (foldG b p g) := nf_tail (kp_fg hp)

theorem NF.fix {b : Bool} {p : List Gate} {x : Gate} (h : NF b p x) (hx : fvG x) (hp : ∀ j, j < p.length → fvG (nth p j)) : foldG b p x = x := by
  have e1 : fg1 b p x = x := by
    unfold fg1
    split
    · rename_i hc
      simp only [Bool.and_eq_true, Bool.not_eq_true'] at hc
      have hu : usesL x = false := by
        cases hu : usesL x with
        | false => rfl
        | true => have := h.kl hc.1 hu; rw [hc.2] at this; cases this
      simp only [usesL, Bool.or_eq_false_iff, bne_eq_false_iff_eq] at hu
      have hd := (fv_nth hp x.l.toNat).2.2.2
      cases x with
      | mk l r c a b d =>
        simp only at hu hd ⊢
        obtain ⟨rfl, rfl⟩ := hu
        rw [rMul_zero hd, rAdd_zero hx.2.2.1, rAdd_zero hx.2.2.2]
    · rfl
  have e2 : fg2 b p x = x := by
    unfold fg2
    split
    · rename_i hc
      simp only [Bool.and_eq_true, Bool.not_eq_true'] at hc
      have hu : usesR x = false := by
        cases hu : usesR x with
        | false => rfl
        | true => have := h.kr hc.1 hu; rw [hc.2] at this; cases this
      simp only [usesR, Bool.or_eq_false_iff, bne_eq_false_iff_eq] at hu
      have hd := (fv_nth hp x.r.toNat).2.2.2
      cases x with
      | mk l r c a b d =>
        simp only at hu hd ⊢
        obtain ⟨rfl, rfl⟩ := hu
        rw [rMul_zero hd, rAdd_zero hx.2.1, rAdd_zero hx.2.2.2]
    · rfl
  have e3 : m1 x = x := by
    unfold m1
    split
    · rename_i hc
      have hb := h.eq (by simpa using hc)
      cases x with
      | mk l r c a b d =>
        simp only at hb ⊢
        subst hb
        rw [rAdd_zero hx.2.1]
    · rfl
  have e4 : m2 x = x := by
    unfold m2
    split
    · rename_i hc
      simp only [Bool.and_eq_true, Bool.not_eq_true'] at hc
      have := (h.rl hc.2).1
      rw [hc.1] at this; cases this
    · rfl
  have e5 : n3 x = x := by
    unfold n3
    split
    · rename_i hc
      have := h.l0 (by simpa using hc)
      cases x; simp only at this; subst this; rfl
    · rfl
  have e6 : m4 x = x := by
    unfold m4
    split
    · rename_i hc
      have := h.r0 (by simpa using hc)
      cases x; simp only at this; subst this; rfl
    · rfl
  have e7 : m5 x = x := by
    unfold m5
    split
    · rename_i hc
      simp only [Bool.and_eq_true, decide_eq_true_eq] at hc
      have := (h.rl hc.1).2
      omega
    · rfl
  unfold foldG
  rw [e1, e2, e3, e4, e5, e6, e7]

/-- The gates of the folded circuit are in normal form over the folded layer before. -/
theorem fold_nf {c : Circ} (h : Vd c) {k i : Nat} (hk : k < c.layers.length) (hi : i < (nth c.layers k).length) : NF (k == 0) (pv foldG c.layers k) (nth (fl foldG c.layers k) i) ∧ (∀ j, j < (pv foldG c.layers k).length → fvG (nth (pv foldG c.layers k) j)) := by
  have hp : ∀ j, j < (pv foldG c.layers k).length → fvG (nth (pv foldG c.layers k) j) := fun j hj => by
    unfold pv at hj ⊢
    split at hj
    · simp at hj
    · rename_i h0
      rw [if_neg h0]
      rw [fl_len] at hj
      exact (fl_both h (k - 1) (by omega)).2 j hj
  rw [fl_nth hi]
  exact ⟨foldG_nf hp, hp⟩

theorem fl_fl {c : Circ} (h : Vd c) : ∀ k, k < c.layers.length → fl foldG (tab (fl foldG c.layers) c.layers.length) k = fl foldG c.layers k
  | k, hk => by
    have hpv : pv foldG (tab (fl foldG c.layers) c.layers.length) k = pv foldG c.layers k := by
      unfold pv
      split
      · rfl
      · exact fl_fl h (k - 1) (by omega)
    rw [fl_eq, hpv, nth_tab hk, fl_len]
    conv => rhs; rw [← tab_nth (fl foldG c.layers k), fl_len]
    refine tab_congr fun i hi => ?_
    obtain ⟨h1, h2⟩ := fold_nf h hk hi
    exact h1.fix ((fl_both h k hk).2 i hi) h2

/-- Folding twice is folding once. -/
theorem fold_fold {c : Circ} (h : Vd c) : fold foldG (fold foldG c) = fold foldG c := by
  show (⟨_, tab (fl foldG (tab (fl foldG c.layers) c.layers.length)) (tab (fl foldG c.layers) c.layers.length).length, _⟩ : Circ) = ⟨_, _, _⟩
  rw [tab_len]
  congr 1
  exact tab_congr fun k hk => fl_fl h k hk
end Go.Proofs.Ytjnbifkojpfdgaa
