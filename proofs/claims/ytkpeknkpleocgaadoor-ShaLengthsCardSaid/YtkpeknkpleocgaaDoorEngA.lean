/-
  Abstract values and heaps, what it means that a machine value reads as an abstract one, and that readings persist.
  Conditions: none; nothing here speaks of one program.
-/
import Derived.WalkKit
set_option linter.unusedSimpArgs false
set_option linter.unusedVariables false
namespace Go.AL
open Go

/-- Data without identity: a one-cell value, a struct or array by its cells, a slice by its elements (each of sz cells; 'full': there is no room behind them). -/
inductive PV where
  | s (v : Value)
  | agg (xs : List PV)
  | sl (full : Bool) (sz : Nat) (xs : List PV)

def PV.cells : PV → List PV
  | .agg xs => xs
  | x => [x]

def flat (xs : List PV) : List PV := xs.flatMap PV.cells

/-- 'sl a v': the slice whose holder may append in place, at version v of the tail a. -/
inductive AV where
  | p (x : PV)
  | sl (a v : Nat) (sz : Nat) (xs : List PV)
  | ref (b off len sz : Nat)
  | ptr (b off : Nat)
  | ip (sz : Nat) (xs : List PV) (i sub : Nat)
  | clo (fn : FuncId) (first captured : List AV)
  | tup (xs : List AV)
  | agg (xs : List AV)
  | yld (b : Nat)
  | vr (b len sz : Nat)
  | vp (b k off : Nat)
  | top

/-- 'tl v c': memory that one holder may append to, at version v; 'tl v (some cs)': with the row cs of cells, all of it written by name ('vr', 'vp'; the version is the number of cells). 'obj vals S': a block that is no row of cells; S tells what it is, given the values that 'vals' stand for. -/
inductive AB where
  | cells (cs : List AV)
  | tl (v : Nat) (c : Option (List AV))
  | obj (vals : List AV) (S : Array Value → Obj → Prop)
  | dead

abbrev AB.tail (v : Nat) : AB := .tl v none
abbrev AB.vec (cs : List AV) : AB := .tl cs.length (some cs)

def isObj : Obj → Bool
  | .cells .. => false
  | _ => true

structure Hp where
  f : Nat → Option AB
  n : Nat
  wf : ∀ b, n ≤ b → f b = none

/-- The machine's side of an abstract heap: the block of a row of cells; the place and the block's size of a tail. -/
structure Gh where
  c : Nat → Nat
  t : Nat → Option (Nat × Nat × Nat)

def Stable (σ : Gh) (H : Hp) (g o : Nat) : Prop :=
  (∀ b cs, H.f b = some (.cells cs) → σ.c b ≠ g) ∧ (∀ b v c o' s, H.f b = some (.tl v c) → σ.t b = some (g, o', s) → o < o')

structure Free (σ : Gh) (H : Hp) (g : Nat) : Prop where
  c : ∀ b cs, H.f b = some (.cells cs) → σ.c b ≠ g
  t : ∀ b v c o' s, H.f b = some (.tl v c) → σ.t b ≠ some (g, o', s)
  o : ∀ b vs S, H.f b = some (.obj vs S) → σ.c b ≠ g

theorem Free.stable {σ : Gh} {H : Hp} {g : Nat} (h : Free σ H g) (o : Nat) : Stable σ H g o :=
  ⟨h.1, fun b v c o' s hb ht => absurd ht (h.2 b v c o' s hb)⟩

inductive RelP (w : World) (S : Nat → Nat → Prop) : PV → Value → Prop
  | s (v : Value) (h1 : v.oneCell' = true) : RelP w S (.s v) v
  | agg (xs : List PV) (vs : Array Value) (hl : vs.size = xs.length) (h1 : ∀ (i : Nat) v, vs[i]? = some v → v.oneCell' = true)
      (h : ∀ (i : Nat) x v, xs[i]? = some x → vs[i]? = some v → RelP w S x v) : RelP w S (.agg xs) (.agg vs)
  | nil (fl : Bool) (sz : Nat) : RelP w S (.sl fl sz []) (.slice none 0 0)
  | sl (fl : Bool) (sz : Nat) (xs : List PV) (g off cap : Nat) (f : Nat → Value) (hfl : fl = true → cap = xs.length) (hcap : xs.length ≤ cap ∧ cap ≤ maxLen)
      (hsz : ∀ x ∈ xs, x.cells.length = sz)
      (hrd : ∀ k, k < xs.length * sz → S g (off + k) ∧ w.cell? ⟨g, off + k, none⟩ = some (f k) ∧ (f k).oneCell' = true)
      (hc : ∀ (k : Nat) y, (flat xs)[k]? = some y → RelP w S y (f k)) : RelP w S (.sl fl sz xs) (.slice (some ⟨g, off, none⟩) xs.length cap)

theorem RelP.mono {w w' : World} {S S' : Nat → Nat → Prop} (h : ∀ g o v, S g o → w.cell? ⟨g, o, none⟩ = some v → S' g o ∧ w'.cell? ⟨g, o, none⟩ = some v)
    {x : PV} {v : Value} (r : RelP w S x v) : RelP w' S' x v := by
  induction r with
  | s v h1 => exact .s v h1
  | agg xs vs hl h1 _ ih => exact .agg xs vs hl h1 ih
  | nil fl sz => exact .nil fl sz
  | sl fl sz xs g off cap f hfl hcap hsz hrd hc ih =>
    exact .sl fl sz xs g off cap f hfl hcap hsz (fun k hk => let q := h _ _ _ (hrd k hk).1 (hrd k hk).2.1; ⟨q.1, q.2, (hrd k hk).2.2⟩) ih

def TailOK (σ : Gh) (H : Hp) (α k : Nat) (sz : Nat) (v : Value) : Prop :=
  α < H.n ∧ ∀ k0 c, H.f α = some (.tl k0 c) → k ≤ k0 ∧ (k = k0 →
      (∃ a n, v = .slice a n n ∧ σ.t α = none) ∨
      ∃ g off len cap s, v = .slice (some ⟨g, off, none⟩) len cap ∧ σ.t α = some (g, off + len * sz, s) ∧ off + cap * sz ≤ s)

/-- A slice's address: none at most if it is empty; no zero-size spot. -/
def AdOK (a : Option Addr) (len : Nat) : Prop := (0 < len → a.isSome = true) ∧ ∀ ad, a = some ad → ad.spot = none

def VecOK (σ : Gh) (H : Hp) (b len : Nat) (sz : Nat) (v : Value) : Prop :=
  b < H.n ∧ ∃ a cap, v = .slice a len cap ∧ AdOK a len ∧ ∀ k0 c, H.f b = some (.tl k0 c) → len * sz ≤ k0 ∧ (len * sz = k0 →
      (len = 0 ∧ cap = 0 ∧ σ.t b = none) ∨
      ∃ g s, a = some ⟨g, 0, none⟩ ∧ σ.t b = some (g, 0, s) ∧ cap * sz ≤ s ∧ len ≤ cap ∧ cap ≤ maxLen)

def VpOK (σ : Gh) (H : Hp) (b k off : Nat) (a : Addr) : Prop :=
  b < H.n ∧ ∀ k0 c, H.f b = some (.tl k0 c) → k ≤ k0 ∧ (k = k0 → ∃ g s, σ.t b = some (g, 0, s) ∧ a = ⟨g, off, none⟩)

inductive RelV (σ : Gh) (H : Hp) (w : World) : AV → Value → Prop
  | p {x v} (h : RelP w (Stable σ H) x v) : RelV σ H w (.p x) v
  | sl {α k sz xs v} (h : RelP w (Stable σ H) (.sl false sz xs) v) (ht : TailOK σ H α k sz v) : RelV σ H w (.sl α k sz xs) v
  | ref {b off len sz cap} (a : Addr) (h0 : ∃ g o, a = ⟨g, o, none⟩) (hb : b < H.n) (hcap : len ≤ cap ∧ cap ≤ maxLen) (ha : 0 < len → a = ⟨σ.c b, off, none⟩) : RelV σ H w (.ref b off len sz) (.slice (some a) len cap)
  | ptr {b off} (hb : b < H.n) : RelV σ H w (.ptr b off) (.pointer (some ⟨σ.c b, off, none⟩))
  | ip {sz xs i sub g off cap} (h : RelP w (Stable σ H) (.sl false sz xs) (.slice (some ⟨g, off, none⟩) xs.length cap)) (hi : i < xs.length) (hs : sub < sz) :
      RelV σ H w (.ip sz xs i sub) (.pointer (some ⟨g, off + i * sz + sub, none⟩))
  | clo {fn first captured} (fs cs : Array Value) (hf : fs.size = first.length) (hc : cs.size = captured.length)
      (h1 : ∀ (i : Nat) x v, first[i]? = some x → fs[i]? = some v → RelV σ H w x v)
      (h2 : ∀ (i : Nat) x v, captured[i]? = some x → cs[i]? = some v → RelV σ H w x v) : RelV σ H w (.clo fn first captured) (.func (.func fn) fs cs)
  | tup {xs} (vs : Array Value) (hl : vs.size = xs.length) (h : ∀ (i : Nat) x v, xs[i]? = some x → vs[i]? = some v → RelV σ H w x v) : RelV σ H w (.tup xs) (.tuple vs)
  | agg {xs} (vs : Array Value) (hl : vs.size = xs.length) (h1 : ∀ (i : Nat) v, vs[i]? = some v → v.oneCell' = true) (h : ∀ (i : Nat) x v, xs[i]? = some x → vs[i]? = some v → RelV σ H w x v) : RelV σ H w (.agg xs) (.agg vs)
  | yld {b} (hb : b < H.n) : RelV σ H w (.yld b) (.func (.yield (σ.c b)) #[] #[])
  | vr {b len sz v} (h : VecOK σ H b len sz v) : RelV σ H w (.vr b len sz) v
  | vp {b k off} (a : Addr) (h : VpOK σ H b k off a) : RelV σ H w (.vp b k off) (.pointer (some a))
  | top (v : Value) : RelV σ H w .top v

/-- From one state to a later one, as seen by whoever knows of the first n0 names only; of the blocks below m that nobody names none has changed. -/
structure EvM (n0 m : Nat) (σ : Gh) (H : Hp) (w : World) (σ' : Gh) (H' : Hp) (w' : World) : Prop where
  cell : ∀ g o v, Stable σ H g o → w.cell? ⟨g, o, none⟩ = some v → Stable σ' H' g o ∧ w'.cell? ⟨g, o, none⟩ = some v
  c : ∀ b, b < n0 → σ'.c b = σ.c b
  hn : n0 ≤ H'.n
  t : ∀ b, b < n0 → ∀ k' c', H'.f b = some (.tl k' c') → ∃ k c, H.f b = some (.tl k c) ∧ k ≤ k' ∧ (k = k' → σ'.t b = σ.t b)
  size : w.heap.size ≤ w'.heap.size
  blk : ∀ g, g < m → Free σ H g → w'.heap[g]? = w.heap[g]? ∧ Free σ' H' g
  os : w'.os = w.os
  out : w'.output = w.output

abbrev Ev (n0 : Nat) (σ : Gh) (H : Hp) (w : World) (σ' : Gh) (H' : Hp) (w' : World) : Prop := EvM n0 w.heap.size σ H w σ' H' w'

theorem EvM.trans' {n0 n1 m m1 m2 : Nat} {σ σ1 σ2 : Gh} {H H1 H2 : Hp} {w w1 w2 : World} (h1 : EvM n1 m1 σ H w σ1 H1 w1) (h2 : EvM n0 m2 σ1 H1 w1 σ2 H2 w2) (hle : n0 ≤ n1) (l1 : m ≤ m1) (l2 : m ≤ m2) : EvM n0 m σ H w σ2 H2 w2 where
  cell g o v hs hc := let ⟨a, b⟩ := h1.cell g o v hs hc; h2.cell g o v a b
  c b hb := (h2.c b hb).trans (h1.c b (Nat.lt_of_lt_of_le hb hle))
  hn := h2.hn
  t b hb k2 c2 hk2 := by
    obtain ⟨k1, c1, e1, l1, q1⟩ := h2.t b hb k2 c2 hk2
    obtain ⟨k, c, e, l, q⟩ := h1.t b (Nat.lt_of_lt_of_le hb hle) k1 c1 e1
    exact ⟨k, c, e, Nat.le_trans l l1, fun hk => by
      have a : k = k1 := by omega
      have b : k1 = k2 := by omega
      rw [q1 b, q a]⟩
  size := Nat.le_trans h1.size h2.size
  blk g hg hf := by
    obtain ⟨a, b⟩ := h1.blk g (Nat.lt_of_lt_of_le hg l1) hf
    obtain ⟨a', b'⟩ := h2.blk g (Nat.lt_of_lt_of_le hg l2) b
    exact ⟨a'.trans a, b'⟩
  os := h2.os.trans h1.os
  out := h2.out.trans h1.out

theorem EvM.trans {n0 n1 : Nat} {σ σ1 σ2 : Gh} {H H1 H2 : Hp} {w w1 w2 : World} (h1 : Ev n1 σ H w σ1 H1 w1) (h2 : Ev n0 σ1 H1 w1 σ2 H2 w2) (hle : n0 ≤ n1) : Ev n0 σ H w σ2 H2 w2 :=
  h1.trans' h2 hle (Nat.le_refl _) h1.size

/-- A step, then what asks less of the unnamed blocks. -/
theorem EvM.transM {n0 n1 m : Nat} {σ σ1 σ2 : Gh} {H H1 H2 : Hp} {w w1 w2 : World} (h1 : Ev n1 σ H w σ1 H1 w1) (h2 : EvM n0 m σ1 H1 w1 σ2 H2 w2) (hle : n0 ≤ n1) (hm : m ≤ w.heap.size) : EvM n0 m σ H w σ2 H2 w2 :=
  h1.trans' h2 hle hm (Nat.le_refl _)

theorem EvM.weaken {n0 n1 m : Nat} {σ σ1 : Gh} {H H1 : Hp} {w w1 : World} (h : EvM n1 m σ H w σ1 H1 w1) (hle : n0 ≤ n1) : EvM n0 m σ H w σ1 H1 w1 where
  cell := h.cell
  c b hb := h.c b (Nat.lt_of_lt_of_le hb hle)
  hn := Nat.le_trans hle h.hn
  t b hb := h.t b (Nat.lt_of_lt_of_le hb hle)
  size := h.size
  blk := h.blk
  os := h.os
  out := h.out

theorem EvM.lower {n0 m m' : Nat} {σ σ1 : Gh} {H H1 : Hp} {w w1 : World} (h : EvM n0 m σ H w σ1 H1 w1) (hle : m' ≤ m) : EvM n0 m' σ H w σ1 H1 w1 :=
  { h with blk := fun g hg => h.blk g (Nat.lt_of_lt_of_le hg hle) }

theorem Ev.refl {σ : Gh} {H : Hp} {w : World} {n0 m : Nat} (hn : n0 ≤ H.n) : EvM n0 m σ H w σ H w :=
  ⟨fun _ _ _ a b => ⟨a, b⟩, fun _ _ => rfl, hn, fun _ _ k c hk => ⟨k, c, hk, Nat.le_refl _, fun _ => rfl⟩, Nat.le_refl _, fun _ _ h => ⟨rfl, h⟩, rfl, rfl⟩

theorem TailOK.mono {m : Nat} {σ σ' : Gh} {H H' : Hp} {w w' : World} (h : EvM H.n m σ H w σ' H' w') {α k sz v} (r : TailOK σ H α k sz v) : TailOK σ' H' α k sz v := by
  obtain ⟨hα, hr⟩ := r
  refine ⟨Nat.lt_of_lt_of_le hα h.hn, fun k' c' hk' => ?_⟩
  obtain ⟨k0, c0, e0, l0, q0⟩ := h.t α hα k' c' hk'
  obtain ⟨l1, q1⟩ := hr k0 c0 e0
  refine ⟨Nat.le_trans l1 l0, fun hkk => ?_⟩
  have e1 : k = k0 := by omega
  have e2 : k0 = k' := by omega
  rw [q0 e2]
  exact q1 e1

theorem VecOK.mono {m : Nat} {σ σ' : Gh} {H H' : Hp} {w w' : World} (h : EvM H.n m σ H w σ' H' w') {b len sz v} (r : VecOK σ H b len sz v) : VecOK σ' H' b len sz v := by
  obtain ⟨hb, a, cap, rfl, hs, hr⟩ := r
  refine ⟨Nat.lt_of_lt_of_le hb h.hn, a, cap, rfl, hs, fun k' c' hk' => ?_⟩
  obtain ⟨k0, c0, e0, l0, q0⟩ := h.t b hb k' c' hk'
  obtain ⟨l1, q1⟩ := hr k0 c0 e0
  refine ⟨Nat.le_trans l1 l0, fun hkk => ?_⟩
  have e1 : len * sz = k0 := by omega
  have e2 : k0 = k' := by omega
  rw [q0 e2]
  exact q1 e1

theorem VpOK.mono {m : Nat} {σ σ' : Gh} {H H' : Hp} {w w' : World} (h : EvM H.n m σ H w σ' H' w') {b k off a} (r : VpOK σ H b k off a) : VpOK σ' H' b k off a := by
  obtain ⟨hb, hr⟩ := r
  refine ⟨Nat.lt_of_lt_of_le hb h.hn, fun k' c' hk' => ?_⟩
  obtain ⟨k0, c0, e0, l0, q0⟩ := h.t b hb k' c' hk'
  obtain ⟨l1, q1⟩ := hr k0 c0 e0
  refine ⟨Nat.le_trans l1 l0, fun hkk => ?_⟩
  have e1 : k = k0 := by omega
  have e2 : k0 = k' := by omega
  rw [q0 e2]
  exact q1 e1

theorem RelV.mono {m : Nat} {σ σ' : Gh} {H H' : Hp} {w w' : World} (h : EvM H.n m σ H w σ' H' w') {x v} (r : RelV σ H w x v) : RelV σ' H' w' x v := by
  induction r with
  | p hp => exact .p (hp.mono h.cell)
  | sl hp ht => exact .sl (hp.mono h.cell) (ht.mono h)
  | ref a h0 hb hcap ha => exact .ref a h0 (Nat.lt_of_lt_of_le hb h.hn) hcap (fun hl => by rw [h.c _ hb]; exact ha hl)
  | ptr hb => rw [← h.c _ hb]; exact .ptr (Nat.lt_of_lt_of_le hb h.hn)
  | ip hp hi hs => exact .ip (hp.mono h.cell) hi hs
  | clo fs cs hf hc _ _ ih1 ih2 => exact .clo fs cs hf hc ih1 ih2
  | tup vs hl _ ih => exact .tup vs hl ih
  | agg vs hl h1 _ ih => exact .agg vs hl h1 ih
  | yld hb => rw [← h.c _ hb]; exact .yld (Nat.lt_of_lt_of_le hb h.hn)
  | vr hp => exact .vr (hp.mono h)
  | vp a hp => exact .vp a (hp.mono h)
  | top v => exact .top v

/-- What one cell of memory holds. -/
def RelC (σ : Gh) (H : Hp) (w : World) (x : AV) (v : Value) : Prop := RelV σ H w x v ∧ v.oneCell' = true

theorem RelC.mono {m : Nat} {σ σ' : Gh} {H H' : Hp} {w w' : World} (h : EvM H.n m σ H w σ' H' w') {x v} (r : RelC σ H w x v) : RelC σ' H' w' x v := ⟨r.1.mono h, r.2⟩

def RelVs (σ : Gh) (H : Hp) (w : World) (xs : List AV) (vs : Array Value) : Prop :=
  vs.size = xs.length ∧ ∀ (i : Nat) x v, xs[i]? = some x → vs[i]? = some v → RelV σ H w x v

theorem RelVs.mono {m : Nat} {σ σ' : Gh} {H H' : Hp} {w w' : World} (h : EvM H.n m σ H w σ' H' w') {xs vs} (r : RelVs σ H w xs vs) : RelVs σ' H' w' xs vs :=
  ⟨r.1, fun i x v a b => (r.2 i x v a b).mono h⟩

/-- Every name in the value is below n. -/
inductive BelowN (n : Nat) : AV → Prop
  | p (x : PV) : BelowN n (.p x)
  | sl (a v sz : Nat) (xs : List PV) (h : a < n) : BelowN n (.sl a v sz xs)
  | ref (b off len sz : Nat) (h : b < n) : BelowN n (.ref b off len sz)
  | ptr (b off : Nat) (h : b < n) : BelowN n (.ptr b off)
  | ip (sz : Nat) (xs : List PV) (i sub : Nat) : BelowN n (.ip sz xs i sub)
  | clo (fn : FuncId) (first captured : List AV) (h1 : ∀ (i : Nat) x, first[i]? = some x → BelowN n x) (h2 : ∀ (i : Nat) x, captured[i]? = some x → BelowN n x) : BelowN n (.clo fn first captured)
  | tup (xs : List AV) (h : ∀ (i : Nat) x, xs[i]? = some x → BelowN n x) : BelowN n (.tup xs)
  | agg (xs : List AV) (h : ∀ (i : Nat) x, xs[i]? = some x → BelowN n x) : BelowN n (.agg xs)
  | yld (b : Nat) (h : b < n) : BelowN n (.yld b)
  | vr (b len sz : Nat) (h : b < n) : BelowN n (.vr b len sz)
  | vp (b k off : Nat) (h : b < n) : BelowN n (.vp b k off)
  | top : BelowN n .top

theorem RelV.belowN {σ : Gh} {H : Hp} {w : World} {x : AV} {v : Value} (r : RelV σ H w x v) : BelowN H.n x := by
  induction r with
  | p h => exact .p _
  | sl h ht => exact .sl _ _ _ _ ht.1
  | ref a h0 hb => exact .ref _ _ _ _ hb
  | ptr hb => exact .ptr _ _ hb
  | ip h => exact .ip _ _ _ _
  | clo fs cs hf hc h1 h2 ih1 ih2 =>
    refine .clo _ _ _ (fun i x hx => ?_) (fun i x hx => ?_)
    · have hlt : i < fs.size := by rw [hf]; exact (List.getElem?_eq_some_iff.1 hx).1
      exact ih1 i x fs[i] hx (by simp)
    · have hlt : i < cs.size := by rw [hc]; exact (List.getElem?_eq_some_iff.1 hx).1
      exact ih2 i x cs[i] hx (by simp)
  | tup vs hl h ih =>
    refine .tup _ fun i x hx => ?_
    have hlt : i < vs.size := by rw [hl]; exact (List.getElem?_eq_some_iff.1 hx).1
    exact ih i x vs[i] hx (by simp)
  | agg vs hl h1 h ih =>
    refine .agg _ fun i x hx => ?_
    have hlt : i < vs.size := by rw [hl]; exact (List.getElem?_eq_some_iff.1 hx).1
    exact ih i x vs[i] hx (by simp)
  | yld hb => exact .yld _ hb
  | vr h => exact .vr _ _ _ h.1
  | vp a h => exact .vp _ _ _ h.1
  | top v => exact .top

/-- The rows of the first n names hold none but these names. -/
def AB.vals : AB → List AV
  | .cells cs => cs
  | .tl _ c => c.getD []
  | .obj vs _ => vs
  | .dead => []

def Bel (n : Nat) (H : Hp) : Prop := ∀ b x, b < n → H.f b = some x → ∀ y ∈ x.vals, BelowN n y

/-- What the package-level variables hold that are never written: the elements of a row. -/
abbrev Globs := Nat → Option (Nat × List PV)

structure Rel (G : Globs) (σ : Gh) (H : Hp) (w : World) : Prop where
  cells : ∀ b cs, H.f b = some (.cells cs) → ∃ c e, w.heap[σ.c b]? = some (.cells c e (0, 0)) ∧ cs.length ≤ c.size ∧ ∀ (i : Nat) x, cs[i]? = some x → ∃ v, c[i]? = some v ∧ RelC σ H w x v
  tail : ∀ b k d g o s, H.f b = some (.tl k d) → σ.t b = some (g, o, s) → ∃ c e, w.heap[g]? = some (.cells c e (0, 0)) ∧ c.size = s
  vec : ∀ b k cs, H.f b = some (.tl k (some cs)) → k = cs.length ∧ (σ.t b = none → cs = []) ∧ ∀ g o s, σ.t b = some (g, o, s) → o = 0 ∧ cs.length ≤ s ∧ ∀ (i : Nat) x, cs[i]? = some x → ∃ v, w.cell? ⟨g, i, none⟩ = some v ∧ RelC σ H w x v
  cc : ∀ b b' cs cs', H.f b = some (.cells cs) → H.f b' = some (.cells cs') → σ.c b = σ.c b' → b = b'
  ct : ∀ b b' cs k d g o s, H.f b = some (.cells cs) → H.f b' = some (.tl k d) → σ.t b' = some (g, o, s) → σ.c b ≠ g
  tt : ∀ b b' k d k' d' g o s o' s', H.f b = some (.tl k d) → H.f b' = some (.tl k' d') → σ.t b = some (g, o, s) → σ.t b' = some (g, o', s') → b = b'
  glob : ∀ g sz xs, G g = some (sz, xs) → RelV σ H w (.ip sz xs 0 0) (.pointer (some ⟨g, 0, none⟩))
  objs : ∀ b vs S, H.f b = some (.obj vs S) → ∃ o us, w.heap[σ.c b]? = some o ∧ isObj o = true ∧ RelVs σ H w vs us ∧ S us o
  oo : ∀ b b' vs vs' S S', H.f b = some (.obj vs S) → H.f b' = some (.obj vs' S') → σ.c b = σ.c b' → b = b'

theorem Rel.bel {G : Globs} {σ : Gh} {H : Hp} {w : World} (hr : Rel G σ H w) : Bel H.n H := fun b x _ hb y hy => by
  obtain ⟨i, hi⟩ := List.getElem?_of_mem hy
  cases x with
  | cells cs =>
    obtain ⟨c, e, _, _, h⟩ := hr.cells b cs hb
    obtain ⟨v, _, hv⟩ := h i y hi
    exact hv.1.belowN
  | tl k c =>
    cases c with
    | none => cases hy
    | some cs =>
      obtain ⟨_, h1, h2⟩ := hr.vec b k cs hb
      cases ht : σ.t b with
      | none =>
        have h1 := h1 ht
        simp only [AB.vals, Option.getD_some, h1] at hy
        cases hy
      | some q =>
        obtain ⟨v, _, hv⟩ := (h2 q.1 q.2.1 q.2.2 ht).2.2 i y hi
        exact hv.1.belowN
  | dead => cases hy
  | obj vs S =>
    obtain ⟨o, us, _, _, hus, _⟩ := hr.objs b vs S hb
    have hlt : i < us.size := by rw [hus.1]; exact (List.getElem?_eq_some_iff.1 hi).1
    exact (hus.2 i y us[i] hi (by simp)).belowN

end Go.AL
