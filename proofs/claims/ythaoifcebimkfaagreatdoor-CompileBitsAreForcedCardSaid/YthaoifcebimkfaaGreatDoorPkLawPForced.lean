/- Proofs. -/
import Derived.Test.YthaoifcebimkfaaGreatDoorPkS5
set_option linter.unusedSectionVars false
set_option linter.unusedSimpArgs false
set_option linter.unusedVariables false
namespace Go.Proofs.YthaoifcebimkfaaGreatDoor.lawPForced
open Go Go.AL Go.ChangeShapes Go.WideShapes Go.ChangeAt Go.RowKit

set_option maxRecDepth 100000 in
theorem contract (H:Type) (enc:TypeId × Value → H) (W:World) (base:Nat) (args:Array Value) (ds gs:List (DataW H)) (before:List MemPlace)
 (hval : ∀ (j:Nat) t v,Tryz.f6.params[j]? = some t → args[j]? = some v → Value.okWide Tryz.prog W .any base t v)
 (hW:DataW.Whole enc Tryz.prog Tryz.f6.params.toList Rows.compileBitsAreForcedSpec.vars false W args.toList ds gs before) (hL:laidMetH Tryz.prog Rows.compileBitsAreForcedRow.laid W) :
 Calls Tryz.prog 6 args W fun e W' => ∃ v,e = .returned v∧Rows.compileBitsAreForcedSpec.post enc Tryz.prog Tryz.f6 false true false false W args v W':=by
 have hW':=hW
 obtain⟨p,q,hA0,hV,rfl,hfz,hnd⟩:=hW
 have hA:DataW.TrodAll enc Tryz.prog W 0 (fun _=>true) true Tryz.f6.params.toList args.toList ds p:=hA0;rw [Tryz.params6] at hA hval
 obtain⟨v0,vs0,d0,ds0,p0,q0,hargs0,rfl,rfl,t0,r0⟩:=trodAll_cons hA
 obtain⟨v1,vs1,d1,ds1,p1,q1,hargs1,rfl,rfl,t1,r1⟩:=trodAll_cons r0
 obtain⟨v2,vs2,d2,ds2,p2,q2,hargs2,rfl,rfl,t2,r2⟩:=trodAll_cons r1
 obtain⟨rfl,rfl,rfl⟩:=trodAll_nil r2
 subst hargs2;subst hargs1
 obtain rfl:args = #[v0,v1,v2]:=by cases args;simp_all
 obtain⟨q,hq,e0⟩:=zlx (hval 0 24 v0 rfl rfl) t0
 obtain⟨l,hl,e1⟩:=zix (hval 1 25 v1 rfl rfl) t1
 obtain⟨ch,hch,e2⟩:=ziG (hval 2 52 v2 rfl rfl) t2
 obtain⟨r1,m1,hGW,hst⟩:=zf7 hL
 have hrel:RelVs σ0 H0 W [.p (qry q),.p (.sl false 4 (pl sop l)),.p (.sl false 3 (pl chg ch))] #[v0,v1,v2]:=⟨rfl,fun i x v h1 h2=>by
  have hi:i < 3:=by have:=(List.getElem?_eq_some_iff.1 h1).1;simpa using this
  rcases Nat.lt_or_ge i 1 with hlt0 | hge0
  · have:i=0:=by omega
    subst this;simp at h1 h2;subst h1;subst h2;exact e0
  rcases Nat.lt_or_ge i 2 with hlt1 | hge1
  · have:i=1:=by omega
    subst this;simp at h1 h2;subst h1;subst h2;exact e1
  have:i=2:=by omega
  subst this;simp at h1 h2;subst h1;subst h2;exact e2⟩
 refine (zfV (zoG hGW q hq.2 l hl ch hch _ _ rfl) (hst) hrel).mono fun e W2 ⟨he,hblk,hos,hout⟩=>⟨_,he,?_⟩
 exact zhH laidOut (fun t ht=>by rw [Tryz.params6] at ht;simp at ht;rcases ht with rfl | rfl | rfl<;>exact⟨by kernel_rfl,by decide +kernel⟩) rfl hW' rfl rfl Tryz.underlying4 hblk hos hout

theorem reads (os:Os) {H:Type} (enc:TypeId × Value → H) : ∃ places,DataW.whole enc Tryz.prog ((laidWorld os).forCall (fun _ _=>0) ⟨#[],#[.agg #[.int .i64 0,.int .i64 0,.int .i64 0,.slice none 0 0],.slice none 0 0,.slice none 0 0],[]⟩).memory Tryz.f6.params.toList Rows.compileBitsAreForcedSpec.vars false (#[.agg #[.int .i64 0,.int .i64 0,.int .i64 0,.slice none 0 0],.slice none 0 0,.slice none 0 0]:Array Value).toList 8=some ([.agg [.lit (.int .i64 0),.lit (.int .i64 0),.lit (.int .i64 0),.nil],.nil,.nil],[],places) :=
 ⟨[],by kernel_rfl⟩

set_option maxRecDepth 100000 in
theorem lifted (os:Os) (started:os.Started) (H:Type) (enc:TypeId × Value → H) (F:Stop.Interp) :
 ReturnsInHanded {} Tryz.checked os 6 .any ((OpenSpec.ofChange Rows.compileBitsAreForcedSpec).preRow enc Tryz.prog Tryz.f6 Rows.compileBitsAreForcedRow.domain false Rows.compileBitsAreForcedRow.laid) (((OpenSpec.ofChange Rows.compileBitsAreForcedSpec).at F).post enc Tryz.prog Tryz.f6 false true false false):=by
 obtain⟨places,hx⟩:=reads os enc
 refine returnsInHanded_of_row (C:=Tryz.checked) (s:=OpenSpec.ofChange Rows.compileBitsAreForcedSpec) own started (by kernel_rfl) Tryz.func6
  (witness_row_at (enc:=enc) (C:=Tryz.checked) false (laidWorld os) #[.agg #[.int .i64 0,.int .i64 0,.int .i64 0,.slice none 0 0],.slice none 0 0,.slice none 0 0] rfl (by kernel_rfl) (by kernel_rfl) (by kernel_rfl)
   (OpenSpec.preRow_of_cond 8 hx (by kernel_rfl) (fun k hk=>by cases hk) (by kernel_rfl) (laid_met os _))) ?_
 intro W base args ds gs before hval hW _ _ _ hL _ _;exact contract H enc W base args ds gs before hval hW hL

theorem said:Rows.CompileBitsAreForcedSaid :=
 OpenClaim.holds_of_cond 6 Tryz.f6 rfl rfl rfl rfl rfl rfl rfl ⟨rfl,rfl,rfl,rfl,rfl⟩ rfl rfl rfl rfl rfl (by kernel_rfl) Tryz.func6 (by kernel_rfl)
  (of_decide_eq_true (by kernel_rfl)) (by unfold Func.isWrapper;first | (rw [if_pos (by decide +kernel)];kernel_rfl) | (rw [if_neg (by decide +kernel)];exact⟨rfl,rfl⟩))
  (fun os started H enc _ F=>by rw [OpenClaim.pre_eq_preRow];exact lifted os started H enc F)

theorem plain (f:FuncId) (fn:Func) (hf:Tryz.pinned.checked.prog.funcNamed Rows.compileBitsAreForcedRow.func=some f) (hfn:Tryz.pinned.checked.prog.funcs[f]? = some fn) :
 false=Tryz.pinned.checked.prog.looks [] ∧ ∀ (j:Nat) t,fn.params[j]? = some t → Tryz.pinned.checked.prog.wantsStandIn t=false:=by
 obtain rfl:f=6:=Option.some.inj ((show Tryz.prog.funcNamed Rows.compileBitsAreForcedRow.func=some 6 by kernel_rfl).symm.trans hf) |>.symm
 obtain rfl:fn=Tryz.f6:=(Option.some.inj (Tryz.func6.symm.trans hfn)).symm
 refine⟨by kernel_rfl,fun j t ht => ?_⟩
 rw [Tryz.params6] at ht;have hm:=Array.mem_of_getElem? ht;simp at hm
 rcases hm with rfl | rfl | rfl
 all_goals (show Tryz.prog.wantsStandIn _=false;kernel_rfl)

theorem card:Rows.CompileBitsAreForcedCardSaid :=
 Claim7.holds_tied_plain_at .later [] _ _ _ _ said (fun _ h=>by cases h) (by kernel_rfl) (fun _ h=>by cases h) compileBitsAreForced_row_tie rfl ⟨rfl,rfl⟩ (by kernel_rfl) rfl plain (by kernel_rfl)
#print axioms card
end Go.Proofs.YthaoifcebimkfaaGreatDoor.lawPForced
