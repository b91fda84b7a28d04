/-
  For every input,doubling the gates of a layer and moving operands to the copies does not change the optimized circuit.
  Conditions: none.
-/
import Derived.Test.YtjnbifkojpfdgaaPkS2
set_option linter.unusedSimpArgs false
set_option linter.unusedVariables false
namespace Go.Proofs.Ytjnbifkojpfdgaa.lawRedundancy
open Go Go.AL Go.ChangeShapes Go.WideShapes Go.ChangeAt Go.RowKit

set_option maxRecDepth 100000 in
theorem contract (H:Type) (enc:TypeId × Value → H) (W:World) (base:Nat) (args:Array Value) (ds gs:List (DataW H)) (before:List MemPlace)
    (hval : ∀ (j:Nat) t v,Try.f9.params[j]? = some t → args[j]? = some v → Value.okWide Try.prog W .any base t v)
    (hW:DataW.Whole enc Try.prog Try.f9.params.toList Rows.optimizeRedundancySpec.vars false W args.toList ds gs before) (hL:laidMetH Try.prog Rows.optimizeRedundancyRow.laid W) :
    Calls Try.prog 9 args W fun e W' => ∃ v,e = .returned v∧Rows.optimizeRedundancySpec.post enc Try.prog Try.f9 false true false false W args v W':=by
  have hW':=hW
  obtain ⟨p,q,hA0,hV,rfl,hfz,hnd⟩:=hW
  have hA:DataW.TrodAll enc Try.prog W 0 (fun _=>true) true Try.f9.params.toList args.toList ds p:=hA0
  rw [Try.params9] at hA hval
  obtain ⟨v0,vs0,d0,ds0,p0,q0,hargs0,rfl,rfl,t0,r0⟩:=trodAll_cons hA
  obtain ⟨v1,vs1,d1,ds1,p1,q1,hargs1,rfl,rfl,t1,r1⟩:=trodAll_cons r0
  obtain ⟨v2,vs2,d2,ds2,p2,q2,hargs2,rfl,rfl,t2,r2⟩:=trodAll_cons r1
  obtain ⟨rfl,rfl,rfl⟩:=trodAll_nil r2
  subst hargs2
  subst hargs1
  obtain rfl:args = #[v0,v1,v2]:=by cases args;simp_all
  obtain ⟨c,cols,lg,hl,hr,hl2,hr2,e0⟩:=rel_inp (hval 0 27 v0 rfl rfl) t0
  obtain ⟨z,e1⟩:=rel_u8 (hval 1 5 v1 rfl rfl) t1
  obtain ⟨bits,e2⟩:=rel_u16 (hval 2 48 v2 rfl rfl) t2
  have hrel:RelVs σ0 H0 W [.p (inpV c cols lg),.p (b8 z),.p (w16 bits)] #[v0,v1,v2]:=⟨rfl,fun i x v h1 h2=>by
    have hi:i < 3:=by have:=(List.getElem?_eq_some_iff.1 h1).1;simpa using this
    rcases Nat.lt_or_ge i 1 with hlt0 | hge0
    · have:i=0:=by omega
      subst this;simp at h1 h2;subst h1;subst h2;exact e0
    rcases Nat.lt_or_ge i 2 with hlt1 | hge1
    · have:i=1:=by omega
      subst this;simp at h1 h2;subst h1;subst h2;exact e1
    have:i=2:=by omega
    subst this;simp at h1 h2;subst h1;subst h2;exact e2⟩
  refine (law_calls (W19_Redundancy_spec c cols lg hl hr hl2 hr2 z bits _ _ rfl) (rel_start) hrel).mono fun e W2 ⟨he,hblk,hos,hout⟩=>⟨_,he,?_⟩
  exact law_post laidOut (fun t ht=>by rw [Try.params9] at ht;simp at ht;rcases ht with rfl | rfl | rfl<;>exact ⟨by kernel_rfl,by decide +kernel⟩) rfl hW' rfl rfl Try.underlying4 hblk hos hout

theorem reads (os:Os) {H:Type} (enc:TypeId × Value → H) : ∃ places,DataW.whole enc Try.prog ((laidWorld os).forCall (fun _ _=>0) ⟨#[],#[.agg #[.int .i64 0,.slice none 0 0,.int .i64 0,.slice none 0 0,.int .u8 0],.int .u8 0,.int .u16 0],[]⟩).memory Try.f9.params.toList Rows.optimizeRedundancySpec.vars false (#[.agg #[.int .i64 0,.slice none 0 0,.int .i64 0,.slice none 0 0,.int .u8 0],.int .u8 0,.int .u16 0]:Array Value).toList 8=some ([.agg [.agg [.lit (.int .i64 0),.nil,.lit (.int .i64 0)],.nil,.lit (.int .u8 0)],.lit (.int .u8 0),.lit (.int .u16 0)],[],places) :=
  ⟨[],by kernel_rfl⟩

set_option maxRecDepth 100000 in
theorem lifted (os:Os) (started:os.Started) (H:Type) (enc:TypeId × Value → H) (F:Stop.Interp) :
    ReturnsInHanded {} Try.checked os 9 .any ((OpenSpec.ofChange Rows.optimizeRedundancySpec).preRow enc Try.prog Try.f9 Rows.optimizeRedundancyRow.domain false Rows.optimizeRedundancyRow.laid) (((OpenSpec.ofChange Rows.optimizeRedundancySpec).at F).post enc Try.prog Try.f9 false true false false):=by
  obtain ⟨places,hx⟩:=reads os enc
  refine returnsInHanded_of_row (C:=Try.checked) (s:=OpenSpec.ofChange Rows.optimizeRedundancySpec) own started (by kernel_rfl) Try.func9
    (witness_row_at (enc:=enc) (C:=Try.checked) false (laidWorld os) #[.agg #[.int .i64 0,.slice none 0 0,.int .i64 0,.slice none 0 0,.int .u8 0],.int .u8 0,.int .u16 0] rfl (by kernel_rfl) (by kernel_rfl) (by kernel_rfl)
      (OpenSpec.preRow_of_cond 8 hx (by kernel_rfl) (fun k hk=>by cases hk) (by kernel_rfl) (by first | exact trivial | exact laidMet_of_run' 8 (by kernel_rfl) (by kernel_rfl)))) ?_
  intro W base args ds gs before hval hW _ _ _ hL _ _
  exact contract H enc W base args ds gs before hval hW hL

theorem said:Rows.OptimizeRedundancySaid :=
  OpenClaim.holds_of_cond 9 Try.f9 rfl rfl rfl rfl rfl rfl rfl ⟨rfl,rfl,rfl,rfl,rfl⟩ rfl rfl rfl rfl rfl (by kernel_rfl) Try.func9 (by kernel_rfl)
    (of_decide_eq_true (by kernel_rfl)) (by unfold Func.isWrapper;first | (rw [if_pos (by decide +kernel)];kernel_rfl) | (rw [if_neg (by decide +kernel)];exact ⟨rfl,rfl⟩))
    (fun os started H enc _ F=>by rw [OpenClaim.pre_eq_preRow];exact lifted os started H enc F)

#print axioms said
end Go.Proofs.Ytjnbifkojpfdgaa.lawRedundancy
