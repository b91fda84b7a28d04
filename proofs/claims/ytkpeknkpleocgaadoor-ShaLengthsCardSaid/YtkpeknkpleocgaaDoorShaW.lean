/-
  What the laws' rows give their walks: the tables, a world for the witness, what the arguments read as.
-/
import Derived.Test.YtkpeknkpleocgaaDoorShaR
import Derived.Test.YtkpeknkpleocgaaDoorEngT
import Derived.Test.YtkpeknkpleocgaaDoorCards
import Derived.Test.YtkpeknkpleocgaaDoorTie
set_option linter.unusedSimpArgs false
set_option linter.unusedVariables false
namespace Go.Proofs.YtkpeknkpleocgaaDoor
open Go Go.AL Go.ChangeShapes Go.WideShapes Go.ChangeAt Go.RowKit

theorem own : ownKnob Tryd.prog.godebug = none := by kernel_rfl
theorem laidOut : laidOutB Tryd.prog = true := by kernel_rfl
/-- The tables' names. -/
def nI : String := Rows.shaMillionthRow.named[0]!
def nC : String := Rows.shaMillionthRow.named[1]!
theorem typesSize : Tryd.prog.types.size = 84 := by kernel_rfl
theorem gConst : Tryd.prog.globalNamed nC = some 1 := by kernel_rfl
theorem gInit : Tryd.prog.globalNamed nI = some 0 := by kernel_rfl
theorem gConstT : (Tryd.prog.globals[1]?).map (·.type) = some 58 := by kernel_rfl
theorem gInitT : (Tryd.prog.globals[0]?).map (·.type) = some 36 := by kernel_rfl

def kz : List Int := ks.map fun x => (x.toNat : Int)
def iz : List Int := inits.map fun x => (x.toNat : Int)

theorem tables {W : World} (h : laidMetH Tryd.prog Rows.shaMillionthRow.laid W) : Lib.TabIs Tryd.prog W nC .u32 kz ∧ Lib.TabIs Tryd.prog W nI .u32 iz := by
  have h : laidMet Tryd.prog [(nC, Lib.tabData .u32 kz), (nI, Lib.tabData .u32 iz)] W := h
  refine ⟨Lib.tabIs_of_head (t := 58) (e := 35) gConst gConstT Tryd.underlying58 Tryd.underlying35 cells35 cells58 h, ?_⟩
  obtain ⟨ps, ⟨g', t', cs, fuel, p, q, _, _, _, _, ⟨g2, t2, cs2, fuel2, p2, q2, hg2, ht2, hvar2, hd2, _, _⟩, _⟩, _⟩ := h
  obtain rfl := Option.some.inj (gInit.symm.trans hg2)
  obtain rfl := Option.some.inj (gInitT.symm.trans ht2)
  unfold Lib.TabIs
  rw [hvar2, ← Lib.cells_of_tab Tryd.underlying36 Tryd.underlying35 cells35 cells36 hd2]


/-- What the tables hold. -/
def GG : Globs := fun g => if g = 0 then some (8, [.agg (pl w32 inits)]) else if g = 1 then some (64, [.agg (pl w32 ks)]) else none
theorem GG_ok : GS GG := ⟨rfl, rfl⟩
theorem rel_start {W : World} (h : laidMetH Tryd.prog Rows.shaMillionthRow.laid W) : Rel GG σ0 H0 W := rel0 fun g sz xs hg => by
  obtain ⟨h1, h0⟩ := tables h
  unfold GG at hg
  split at hg
  · rename_i e; subst e; cases hg
    exact glob_words (l := inits) h0 gInit rfl (by decide)
  · split at hg
    · rename_i e; subst e; cases hg
      exact glob_words (l := ks) h1 gConst rfl (by decide)
    · cases hg

/-- A world for the witness: the settled one, the tables holding what their initialisers lay. -/
noncomputable def laidWorld (os : Os) : World :=
  let w := World.holding Tryd.prog os ⟨#[], #[], []⟩
  { w with heap := (w.heap.modify 0 fun
      | .cells _ t frozen => .cells (iz.map fun z => Value.int .u32 z).toArray t frozen
      | o => o).modify 1 fun
      | .cells _ t frozen => .cells (kz.map fun z => Value.int .u32 z).toArray t frozen
      | o => o }

set_option maxRecDepth 100000 in
theorem laid_met (os : Os) (args : Array Value) : laidMet Tryd.prog Rows.shaMillionthRow.laid ((laidWorld os).forCall (fun _ _ => 0) ⟨#[], args, []⟩).memory :=
  laidMet_of_run' 8 (by kernel_rfl) (by kernel_rfl)

theorem rel_byte {W : World} {v : Value} {H : Type} {enc : TypeId × Value → H} {d : DataW H} {ps : List MemPlace} {t : TypeId} {base : Nat} (ht : Tryd.prog.underlying t = some (.int .u8)) (hval : Value.okWide Tryd.prog W .any base t v) (h : DataW.Trod enc Tryd.prog W 0 (fun _ => true) true t v d ps) :
    ∃ n : BitVec 8, RelV σ0 H0 W (.p (b8 n)) v := by
  obtain ⟨n, rfl, _, _, hw⟩ := open_int ht hval h
  refine ⟨BitVec.ofInt 8 n, .p ?_⟩
  show RelP W _ (.s (.int .u8 ((BitVec.ofInt 8 n).toNat : Int))) _
  rw [wf_u8 hw]
  exact .s _ rfl

theorem spot_ok {P : Program} {W : World} {t e : TypeId} {base : Nat} {v : Value} (ht : P.underlying t = some (.slice e)) (hval : Cell.okWide P W .any base t v) : ∀ a l c, v = .slice (some a) l c → a.spot = none := by
  intro a l c hv
  subst hv
  simp only [Cell.okWide, ht, Cell.ok] at hval
  exact hval.2.2.2.1

theorem rel_bytes {W : World} {v : Value} {H : Type} {enc : TypeId × Value → H} {d : DataW H} {ps : List MemPlace} {base : Nat} (hval : Value.okWide Tryd.prog W .any base 22 v) (h : DataW.Trod enc Tryd.prog W 0 (fun _ => true) true 22 v d ps) :
    ∃ l : List (BitVec 8), l.length ≤ 9223372036854775807 ∧ RelV σ0 H0 W (.p (.sl false 1 (pl b8 l))) v := by
  obtain ⟨fuel, hf⟩ := h
  have hv : Cell.okWide Tryd.prog W .any base 22 v := by simpa only [Value.okWide, Tryd.underlying22] using hval
  have hs := spot_ok Tryd.underlying22 hv
  have hc : v.cells.toList = [v] := by
    cases v <;> first | rfl | (simp [Cell.okWide, Cell.ok, Tryd.underlying22] at hv)
  rw [hc] at hf
  obtain ⟨l, h1, h2⟩ := read_bytes Tryd.underlying22 Tryd.underlying5 cells5 hf hs
  exact ⟨l, h1, .p h2⟩

end Go.Proofs.YtkpeknkpleocgaaDoor
