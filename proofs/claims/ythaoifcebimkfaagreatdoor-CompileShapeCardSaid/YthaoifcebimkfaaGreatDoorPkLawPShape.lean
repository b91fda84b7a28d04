/- Proofs. -/
import Derived.Test.YthaoifcebimkfaaGreatDoorPkS4
set_option linter.unusedSectionVars false
set_option linter.unusedSimpArgs false
set_option linter.unusedVariables false
namespace Go.Proofs.YthaoifcebimkfaaGreatDoor.lawPShape
open Go Go.AL Go.ChangeShapes Go.WideShapes Go.ChangeAt Go.RowKit

set_option maxRecDepth 100000 in
theorem contract (H:Type) (enc:TypeId × Value → H) (W:World) (base:Nat) (args:Array Value) (ds gs:List (DataW H)) (before:List MemPlace)
 (hval : ∀ (j:Nat) t v,Tryz.f7.params[j]? = some t → args[j]? = some v → Value.okWide Tryz.prog W .any base t v)
 (hW:DataW.Whole enc Tryz.prog Tryz.f7.params.toList Rows.compileShapeSpec.vars false W args.toList ds gs before) (hL:laidMetH Tryz.prog Rows.compileShapeRow.laid W) :
 Calls Tryz.prog 7 args W fun e W' => ∃ v,e = .returned v∧Rows.compileShapeSpec.post enc Tryz.prog Tryz.f7 false true false false W args v W':=by
 have hW':=hW
 obtain⟨p,q,hA0,hV,rfl,hfz,hnd⟩:=hW
 have hA:DataW.TrodAll enc Tryz.prog W 0 (fun _=>true) true Tryz.f7.params.toList args.toList ds p:=hA0;rw [Tryz.params7] at hA hval
 obtain⟨v0,vs0,d0,ds0,p0,q0,hargs0,rfl,rfl,t0,r0⟩:=trodAll_cons hA
 obtain⟨rfl,rfl,rfl⟩:=trodAll_nil r0
 obtain rfl:args = #[v0]:=by cases args;simp_all
 obtain⟨q,hq,e0⟩:=zAq (hval 0 24 v0 rfl rfl) t0
 obtain⟨r1,m1,hGW,hst⟩:=zuh hL
 have hrel:RelVs σ0 H0 W [.p (qry q)] #[v0]:=⟨rfl,fun i x v h1 h2=>by
  have hi:i < 1:=by have:=(List.getElem?_eq_some_iff.1 h1).1;simpa using this
  have:i=0:=by omega
  subst this;simp at h1 h2;subst h1;subst h2;exact e0⟩
 refine (zrQ (zps hGW q hq.2 _ _ rfl) (hst) hrel).mono fun e W2 ⟨he,hblk,hos,hout⟩=>⟨_,he,?_⟩
 exact zvq laidOut (fun t ht=>by rw [Tryz.params7] at ht;simp at ht;rcases ht with rfl<;>exact⟨by kernel_rfl,by decide +kernel⟩) rfl hW' rfl rfl Tryz.underlying4 hblk hos hout

theorem reads (os:Os) {H:Type} (enc:TypeId × Value → H) : ∃ places,DataW.whole enc Tryz.prog ((laidWorld os).forCall (fun _ _=>0) ⟨#[],#[.agg #[.int .i64 0,.int .i64 0,.int .i64 0,.slice none 0 0]],[]⟩).memory Tryz.f7.params.toList Rows.compileShapeSpec.vars false (#[.agg #[.int .i64 0,.int .i64 0,.int .i64 0,.slice none 0 0]]:Array Value).toList 8=some ([.agg [.lit (.int .i64 0),.lit (.int .i64 0),.lit (.int .i64 0),.nil]],[],places) :=
 ⟨[],by kernel_rfl⟩

set_option maxRecDepth 100000 in
theorem lifted (os:Os) (started:os.Started) (H:Type) (enc:TypeId × Value → H) (F:Stop.Interp) :
 ReturnsInHanded {} Tryz.checked os 7 .any ((OpenSpec.ofChange Rows.compileShapeSpec).preRow enc Tryz.prog Tryz.f7 Rows.compileShapeRow.domain false Rows.compileShapeRow.laid) (((OpenSpec.ofChange Rows.compileShapeSpec).at F).post enc Tryz.prog Tryz.f7 false true false false):=by
 obtain⟨places,hx⟩:=reads os enc
 refine returnsInHanded_of_row (C:=Tryz.checked) (s:=OpenSpec.ofChange Rows.compileShapeSpec) own started (by kernel_rfl) Tryz.func7
  (witness_row_at (enc:=enc) (C:=Tryz.checked) false (laidWorld os) #[.agg #[.int .i64 0,.int .i64 0,.int .i64 0,.slice none 0 0]] rfl (by kernel_rfl) (by kernel_rfl) (by kernel_rfl)
   (OpenSpec.preRow_of_cond 8 hx (by kernel_rfl) (fun k hk=>by cases hk) (by kernel_rfl) (laid_met os _))) ?_
 intro W base args ds gs before hval hW _ _ _ hL _ _;exact contract H enc W base args ds gs before hval hW hL

theorem said:Rows.CompileShapeSaid :=
 OpenClaim.holds_of_cond 7 Tryz.f7 rfl rfl rfl rfl rfl rfl rfl ⟨rfl,rfl,rfl,rfl,rfl⟩ rfl rfl rfl rfl rfl (by kernel_rfl) Tryz.func7 (by kernel_rfl)
  (of_decide_eq_true (by kernel_rfl)) (by unfold Func.isWrapper;first | (rw [if_pos (by decide +kernel)];kernel_rfl) | (rw [if_neg (by decide +kernel)];exact⟨rfl,rfl⟩))
  (fun os started H enc _ F=>by rw [OpenClaim.pre_eq_preRow];exact lifted os started H enc F)

theorem plain (f:FuncId) (fn:Func) (hf:Tryz.pinned.checked.prog.funcNamed Rows.compileShapeRow.func=some f) (hfn:Tryz.pinned.checked.prog.funcs[f]? = some fn) :
 false=Tryz.pinned.checked.prog.looks [] ∧ ∀ (j:Nat) t,fn.params[j]? = some t → Tryz.pinned.checked.prog.wantsStandIn t=false:=by
 obtain rfl:f=7:=Option.some.inj ((show Tryz.prog.funcNamed Rows.compileShapeRow.func=some 7 by kernel_rfl).symm.trans hf) |>.symm
 obtain rfl:fn=Tryz.f7:=(Option.some.inj (Tryz.func7.symm.trans hfn)).symm
 refine⟨by kernel_rfl,fun j t ht => ?_⟩
 rw [Tryz.params7] at ht;have hm:=Array.mem_of_getElem? ht;simp at hm;subst hm;exact (show Tryz.prog.wantsStandIn 24=false by kernel_rfl)

theorem card:Rows.CompileShapeCardSaid :=
 Claim7.holds_tied_plain_at .later [] _ _ _ _ said (fun _ h=>by cases h) (by kernel_rfl) (fun _ h=>by cases h) compileShape_row_tie rfl ⟨rfl,rfl⟩ (by kernel_rfl) rfl plain (by kernel_rfl)
#print axioms card
end Go.Proofs.YthaoifcebimkfaaGreatDoor.lawPShape
