/-
  From the runs on abstract values to a row's statement: what a law's call leaves, what its arguments read as.
  Conditions: none; nothing here speaks of one program.
-/
import Derived.Test.YtkpeknkpleocgaaDoorEngS
import Derived.Carry
import Derived.OpenShut
import Derived.Lib.LaidTab
import Derived.Deep.DeepHandedRow
import Derived.ProofKit
set_option linter.unusedSimpArgs false
set_option linter.unusedVariables false
namespace Go.AL
open Go Go.ChangeShapes Go.WideShapes Go.ChangeAt Go.RowKit

section post
variable {H : Type} {enc : TypeId × Value → H} {P : Program}

theorem trodAll_stays {W W' : World} {sp : Nat → Bool} (hl : laidOutB P = true) : ∀ {ts : List TypeId} {vs : List Value} {ds : List (DataW H)} {ps : List MemPlace}, (∀ t ∈ ts, P.readableRec t = true ∧ t < P.types.size) →
    DataW.TrodAll enc P W 0 (fun _ => true) true ts vs ds ps → (∀ p ∈ ps, W.sameAt W' p) → (∀ p ∈ ps, sp p.block = true) → DataW.TrodAll enc P W' 0 sp true ts vs ds ps
  | [], vs, ds, ps, _, h, _, _ => by
    obtain ⟨rfl, rfl, rfl⟩ := trodAll_nil h
    exact trodAll_mk0
  | t :: ts, vs, ds, ps, hr, h, h1, h2 => by
    obtain ⟨v, vs', d, ds', p, q, rfl, rfl, rfl, h3, h4⟩ := trodAll_cons h
    exact trodAll_cons_mk (WideElems.Trod_stays hl (hr t (by simp)).1 (hr t (by simp)).2 h3 (fun x hx => h1 x (by simp [hx])) (fun x hx => h2 x (by simp [hx])))
      (trodAll_stays hl (fun u hu => hr u (by simp [hu])) h4 (fun x hx => h1 x (by simp [hx])) (fun x hx => h2 x (by simp [hx])))

/-- A law's call that answers true and changes no old block leaves what the row asks. -/
theorem law_post {f : Func} {s : ChangeSpec} {W W' : World} {args : Array Value} {ds gs : List (DataW H)} {before : List MemPlace} {tb : TypeId} (hl : laidOutB P = true) (hr : ∀ t ∈ f.params.toList, P.readableRec t = true ∧ t < P.types.size)
    (hv0 : s.vars = []) (hW : DataW.Whole enc P f.params.toList s.vars false W args.toList ds gs before) (hfn : s.fn H ds = { results := [.lit (.bool true)], args := ds })
    (hrt : f.resultTypes = #[tb]) (htb : P.underlying tb = some .bool) (hblk : ∀ g, g < W.heap.size → W'.heap[g]? = W.heap[g]?) (hos : W'.os = W.os) (hout : W'.output = W.output) :
    s.post enc P f false true false false W args (.bool true) W' := by
  have hlt := hW.lt
  have hW0 := hW
  obtain ⟨p, q, hA, hV, hbe, hz, hn⟩ := hW
  rw [hv0] at hV
  obtain ⟨rfl, rfl⟩ := trodVars_none hV
  rw [List.append_nil] at hbe
  subst hbe
  have hsame : ∀ x ∈ before, W.sameAt W' x := fun x hx => by
    have h1 := hblk x.block (hlt x hx)
    cases x with
    | cell b off => simp only [MemPlace.block] at h1; simp [World.sameAt, World.cell?, h1]
    | map b => simp only [MemPlace.block] at h1; simpa [World.sameAt] using h1
  refine ⟨ds, [], before, [], before, [], hW0, ?_, ?_, ?_, ?_, fun h => by cases h⟩
  · rw [List.append_nil, hfn, hrt]
    exact trodAll_cons_mk (shut_bool htb true) trodAll_mk0
  · rw [List.append_nil, hfn]
    exact trodAll_stays hl hr hA hsame fun x hx => by simpa using hlt x hx
  · rw [List.append_nil, hfn, hv0]
    exact rfl
  · refine ⟨hos, hout, fun i hi => ?_⟩
    rw [hblk i hi]
    cases hw : W.heap[i]? with
    | none => rfl
    | some o => cases o <;> simp
end post

/-! ### The start of a law's run -/

def H0 : Hp := ⟨fun _ => none, 0, fun _ _ => rfl⟩
def σ0 : Gh := ⟨fun _ => 0, fun _ => none⟩

theorem rel0 {G : Globs} {W : World} (hG : ∀ g sz xs, G g = some (sz, xs) → RelV σ0 H0 W (.ip sz xs 0 0) (.pointer (some ⟨g, 0, none⟩))) : Rel G σ0 H0 W :=
  ⟨fun _ _ h => (by cases h), fun _ _ _ _ _ _ h => (by cases h), fun _ _ _ h => (by cases h), fun _ _ _ _ h => (by cases h), fun _ _ _ _ _ _ _ _ h => (by cases h), fun _ _ _ _ _ _ _ _ _ _ _ h => (by cases h), hG, fun _ _ _ h => (by cases h), fun _ _ _ _ _ _ h => (by cases h)⟩

theorem stable0 (g o : Nat) : Stable σ0 H0 g o := ⟨fun _ _ h => (by cases h), fun _ _ _ _ _ h => (by cases h)⟩
theorem free0 (g : Nat) : Free σ0 H0 g := ⟨fun _ _ h => (by cases h), fun _ _ _ _ _ h => (by cases h), fun _ _ _ h => (by cases h)⟩

/-- A law's run, told as a call's contract. -/
theorem law_calls {P : Program} {G : Globs} {f : FuncId} {args : List AV} {W : World} {vs : Array Value} (h : ACall P G f args H0 fun r _ => r = .p (bo true)) (hr : Rel G σ0 H0 W) (hv : RelVs σ0 H0 W args vs) :
    Calls P f vs W fun e W' => e = .returned (.bool true) ∧ (∀ g, g < W.heap.size → W'.heap[g]? = W.heap[g]?) ∧ W'.os = W.os ∧ W'.output = W.output := by
  refine (h σ0 W vs hr hv).mono ?_
  rintro e W' ⟨r, H', σ', v, rfl, rfl, hrel, hrv, hev⟩
  cases hrv.bool_inv
  exact ⟨rfl, fun g hg => (hev.blk g hg (free0 g)).1, hev.os, hev.out⟩

/-- A package-level table of words. -/
theorem glob_words {P : Program} {W : World} {name : String} {g : Nat} {l : List (BitVec 32)} {zs : List Int} (h : Lib.TabIs P W name .u32 zs) (hg : P.globalNamed name = some g) (hz : zs = l.map fun x => (x.toNat : Int)) (hl : 0 < l.length) :
    RelV σ0 H0 W (.ip l.length [.agg (pl w32 l)] 0 0) (.pointer (some ⟨g, 0, none⟩)) := by
  subst hz
  have hcell : ∀ i, i < l.length → W.cell? ⟨g, i, none⟩ = some (.int .u32 ((l[i]?).getD 0).toNat) := fun i hi => by
    have := h.cell hg i (by simpa using hi)
    rw [this]
    simp [List.getD, hi]
  have := RelV.ip (σ := σ0) (H := H0) (w := W) (sz := l.length) (xs := [.agg (pl w32 l)]) (i := 0) (sub := 0) (g := g) (off := 0) (cap := 1)
    (.sl false _ _ _ 0 1 (fun k => .int .u32 ((l[k]?).getD 0).toNat) (by simp) ⟨by simp, by unfold maxLen; omega⟩ (fun x hx => by simp only [List.mem_singleton] at hx; subst hx; exact pl_len)
      (fun k hk => by
        simp only [List.length_singleton, Nat.one_mul] at hk
        rw [Nat.zero_add]
        exact ⟨stable0 _ _, hcell k hk, rfl⟩)
      (fun k y hy => by
        have : flat [PV.agg (pl w32 l)] = pl w32 l := by simp [flat, PV.cells]
        rw [this] at hy
        simp only [pl, List.getElem?_map, Option.map_eq_some_iff] at hy
        obtain ⟨x, hx, rfl⟩ := hy
        rw [hx]
        exact .s _ rfl)) (by simp) hl
  simpa using this

/-! ### What arguments read as -/
section read
variable {H : Type} {enc : TypeId × Value → H} {P : Program} {W : World} {sp : Nat → Bool} {held : Bool}

theorem wf_u8 {n : Int} (h : (Lit.int .u8 n).wf = true) : ((BitVec.ofInt 8 n).toNat : Int) = n := by
  simp only [Lit.wf, Bool.and_eq_true, decide_eq_true_eq] at h
  have h1 : IntKind.u8.min = 0 := rfl
  have h2 : IntKind.u8.max = 255 := rfl
  rw [h1, h2] at h
  rw [BitVec.toNat_ofInt]
  omega

/-- A slice of bytes. -/
theorem read_bytes {t e : TypeId} {fuel : Nat} {v : Value} {x : DataW H × List MemPlace} (ht : P.underlying t = some (.slice e)) (he : P.underlying e = some (.int .u8)) (hc : P.cellsOf e = 1)
    (h : DataW.trod enc P W 0 sp held fuel t [v] = some x) (hspot : ∀ a l c, v = .slice (some a) l c → a.spot = none) : ∃ l : List (BitVec 8), l.length ≤ 9223372036854775807 ∧ RelP W (Stable σ0 H0) (.sl false 1 (pl b8 l)) v := by
  rcases ChangeShapes.open_ints ht he hc h with ⟨hv, _⟩ | ⟨a, len, cap, zs, hv, _, hlc, hcm, hzl, _, hz, hwf⟩
  · cases hv; exact ⟨[], by simp, .nil _ _⟩
  · cases hv
    have hsp := hspot a len cap rfl
    obtain ⟨g, off, spot⟩ := a
    simp only at hsp
    subst hsp
    have hle : len ≤ zs.length := by rw [hzl]; split <;> omega
    have hll : ((zs.take len).map (BitVec.ofInt 8)).length = len := by simp; omega
    unfold maxLen at hcm
    refine ⟨(zs.take len).map (BitVec.ofInt 8), by rw [hll]; omega, ?_⟩
    have hone : ∀ y ∈ pl b8 ((zs.take len).map (BitVec.ofInt 8)), y.cells = [y] := fun y hy => by
      simp only [pl, List.mem_map] at hy
      obtain ⟨x, _, rfl⟩ := hy
      rfl
    have key := RelP.sl (w := W) (S := Stable σ0 H0) false 1 (pl b8 ((zs.take len).map (BitVec.ofInt 8))) g off cap (fun k => .int .u8 (zs.getD k 0)) (by simp) ⟨by rw [pl_len, hll]; exact hlc, by unfold maxLen; omega⟩ (fun y hy => by rw [hone y hy]; rfl)
      (fun k hk => by
        rw [pl_len, hll, Nat.mul_one] at hk
        have := hz k (by omega)
        rw [add_none] at this
        exact ⟨stable0 _ _, this, rfl⟩)
      (fun k y hy => by
        rw [flat_ones hone] at hy
        simp only [pl, List.map_map, List.getElem?_map, Option.map_eq_some_iff, Function.comp_def] at hy
        obtain ⟨z, hz1, rfl⟩ := hy
        have hk : k < len := by have := (List.getElem?_eq_some_iff.1 hz1).1; simp at this; omega
        rw [List.getElem?_take_of_lt hk] at hz1
        have hzm : z ∈ zs := List.mem_of_getElem? hz1
        have : zs.getD k 0 = z := by simp [List.getD, hz1]
        rw [this]
        show RelP W _ (.s (.int .u8 ((BitVec.ofInt 8 z).toNat : Int))) _
        rw [wf_u8 (hwf z hzm)]
        exact .s _ rfl)
    rwa [pl_len, hll] at key
end read
end Go.AL
