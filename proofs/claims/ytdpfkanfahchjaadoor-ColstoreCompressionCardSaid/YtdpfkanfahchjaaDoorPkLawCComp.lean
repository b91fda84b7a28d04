/-
  Unpack inverts Pack,the columns have at most two bytes per reading,and if Unpack accepts an arbitrary segment,Pack of the result is the segment.
  Conditions: the package-level tables read as the row lists them;the card ties that to the program's text.
-/
import Derived.Test.YtdpfkanfahchjaaDoorPkS4
set_option linter.unusedSimpArgs false
set_option linter.unusedVariables false
namespace Go.Proofs.YtdpfkanfahchjaaDoor.lawCComp
open Go Go.AL Go.ChangeShapes Go.WideShapes Go.ChangeAt Go.RowKit

set_option maxRecDepth 100000 in
theorem contract (H:Type) (enc:TypeId × Value → H) (W:World) (base:Nat) (args:Array Value) (ds gs:List (DataW H)) (before:List MemPlace)
 (hval : ∀ (j:Nat) t v,Tryd.f7.params[j]? = some t → args[j]? = some v → Value.okWide Tryd.prog W .any base t v)
 (hW:DataW.Whole enc Tryd.prog Tryd.f7.params.toList Rows.colstoreCompressionSpec.vars false W args.toList ds gs before) (hL:laidMetH Tryd.prog Rows.colstoreCompressionRow.laid W) (tys:List TypeId) (hwt:(DataW.weightsEach Tryd.prog (Tryd.f7.params.toList++tys) (ds++gs)).all (· ≤ reachBytes)=true) :
 Calls Tryd.prog 7 args W fun e W' => ∃ v,e = .returned v∧Rows.colstoreCompressionSpec.post enc Tryd.prog Tryd.f7 false true false false W args v W':=by
 have hW':=hW
 obtain⟨p,q,hA0,hV,rfl,hfz,hnd⟩:=hW
 have hA:DataW.TrodAll enc Tryd.prog W 0 (fun _=>true) true Tryd.f7.params.toList args.toList ds p:=hA0
 rw [Tryd.params7] at hA hval
 obtain⟨v0,vs0,d0,ds0,p0,q0,hargs0,rfl,rfl,t0,r0⟩:=trodAll_cons hA
 obtain⟨v1,vs1,d1,ds1,p1,q1,hargs1,rfl,rfl,t1,r1⟩:=trodAll_cons r0
 obtain⟨v2,vs2,d2,ds2,p2,q2,hargs2,rfl,rfl,t2,r2⟩:=trodAll_cons r1
 obtain⟨rfl,rfl,rfl⟩:=trodAll_nil r2
 subst hargs2
 subst hargs1
 obtain rfl:args = #[v0,v1,v2]:=by cases args;simp_all
 have hw0 : ∀ w∈d2.weights Tryd.prog 49,w≤reachBytes:=fun w h=>by
  have:=List.all_eq_true.1 hwt w (by
   rw [Tryd.params7]
   show w∈DataW.weightsEach Tryd.prog (61 :: 46 :: 49 :: tys) (d0 :: d1 :: d2 :: _)
   simp only [DataW.weightsEach]
   exact List.mem_append_right _ (List.mem_append_right _ (List.mem_append_left _ h)))
  simpa using this
 obtain⟨t,ht,e0⟩:=zt6 (hval 0 61 v0 rfl rfl) t0
 obtain⟨w,e1⟩:=zfr (hval 1 46 v1 rfl rfl) t1
 obtain⟨rows,cs,hrows,hcl,hcs,e2⟩:=zt9 (hval 2 49 v2 rfl rfl) t2 hw0
 have hrel:RelVs σ0 H0 W [.p (.sl false 3 (pl tri t)),.p (w16 w),.p (seg rows cs)] #[v0,v1,v2]:=⟨rfl,fun i x v h1 h2=>by
  have hi:i < 3:=by have:=(List.getElem?_eq_some_iff.1 h1).1;simpa using this
  rcases Nat.lt_or_ge i 1 with hlt0 | hge0
  · have:i=0:=by omega
    subst this;simp at h1 h2;subst h1;subst h2;exact e0
  rcases Nat.lt_or_ge i 2 with hlt1 | hge1
  · have:i=1:=by omega
    subst this;simp at h1 h2;subst h1;subst h2;exact e1
  have:i=2:=by omega
  subst this;simp at h1 h2;subst h1;subst h2;exact e2⟩
 refine (zcZ (zqA zvt zvu t w rows cs hrows ht hcl hcs _ _ rfl) (zc7 hL) hrel).mono fun e W2 ⟨he,hblk,hos,hout⟩=>⟨_,he,?_⟩
 exact zdV laidOut (fun t ht=>by rw [Tryd.params7] at ht;simp at ht;rcases ht with rfl | rfl | rfl<;>exact⟨by kernel_rfl,by decide +kernel⟩) rfl hW' rfl rfl Tryd.underlying4 hblk hos hout

theorem reads (os:Os) {H:Type} (enc:TypeId × Value → H) : ∃ places,DataW.whole enc Tryd.prog ((laidWorld os).forCall (fun _ _=>0) ⟨#[],#[.slice none 0 0,.int .u16 0,.agg #[.int .i64 0,.slice none 0 0]],[]⟩).memory Tryd.f7.params.toList Rows.colstoreCompressionSpec.vars false (#[.slice none 0 0,.int .u16 0,.agg #[.int .i64 0,.slice none 0 0]]:Array Value).toList 8=some ([.nil,.lit (.int .u16 0),.agg [.lit (.int .i64 0),.nil]],[],places) :=
 ⟨[],by kernel_rfl⟩

set_option maxRecDepth 100000 in
theorem lifted (os:Os) (started:os.Started) (H:Type) (enc:TypeId × Value → H) (F:Stop.Interp) :
 ReturnsInHanded {} Tryd.checked os 7 .any ((OpenSpec.ofChange Rows.colstoreCompressionSpec).preRow enc Tryd.prog Tryd.f7 Rows.colstoreCompressionRow.domain false Rows.colstoreCompressionRow.laid) (((OpenSpec.ofChange Rows.colstoreCompressionSpec).at F).post enc Tryd.prog Tryd.f7 false true false false):=by
 obtain⟨places,hx⟩:=reads os enc
 refine returnsInHanded_of_row (C:=Tryd.checked) (s:=OpenSpec.ofChange Rows.colstoreCompressionSpec) own started (by kernel_rfl) Tryd.func7
  (witness_row_at (enc:=enc) (C:=Tryd.checked) false (laidWorld os) #[.slice none 0 0,.int .u16 0,.agg #[.int .i64 0,.slice none 0 0]] rfl (by kernel_rfl) (by kernel_rfl) (by kernel_rfl)
   (OpenSpec.preRow_of_cond 8 hx (by kernel_rfl) (fun k hk=>by cases hk) (by kernel_rfl) (laid_met os _))) ?_
 intro W base args ds gs before hval hW _ _ hz hL _ _
 exact contract H enc W base args ds gs before hval hW hL _ hz

theorem said:Rows.ColstoreCompressionSaid :=
 OpenClaim.holds_of_cond 7 Tryd.f7 rfl rfl rfl rfl rfl rfl rfl ⟨rfl,rfl,rfl,rfl,rfl⟩ rfl rfl rfl rfl rfl (by kernel_rfl) Tryd.func7 (by kernel_rfl)
  (of_decide_eq_true (by kernel_rfl)) (by unfold Func.isWrapper;first | (rw [if_pos (by decide +kernel)];kernel_rfl) | (rw [if_neg (by decide +kernel)];exact⟨rfl,rfl⟩))
  (fun os started H enc _ F=>by rw [OpenClaim.pre_eq_preRow];exact lifted os started H enc F)

theorem plain (f:FuncId) (fn:Func) (hf:Tryd.pinned.checked.prog.funcNamed Rows.colstoreCompressionRow.func=some f) (hfn:Tryd.pinned.checked.prog.funcs[f]? = some fn) :
 false=Tryd.pinned.checked.prog.looks [] ∧ ∀ (j:Nat) t,fn.params[j]? = some t → Tryd.pinned.checked.prog.wantsStandIn t=false:=by
 obtain rfl:f=7:=Option.some.inj ((show Tryd.prog.funcNamed Rows.colstoreCompressionRow.func=some 7 by kernel_rfl).symm.trans hf) |>.symm
 obtain rfl:fn=Tryd.f7:=(Option.some.inj (Tryd.func7.symm.trans hfn)).symm
 refine⟨by kernel_rfl,fun j t ht => ?_⟩
 rw [Tryd.params7] at ht
 have hm:=Array.mem_of_getElem? ht
 simp at hm
 rcases hm with rfl | rfl | rfl
 all_goals (show Tryd.prog.wantsStandIn _=false;kernel_rfl)

theorem card:Rows.ColstoreCompressionCardSaid :=
 Claim7.holds_tied_plain_at .later [] _ _ _ _ said (fun _ h=>by cases h) (by kernel_rfl) (fun _ h=>by cases h) colstoreCompression_row_tie rfl ⟨rfl,rfl⟩ (by kernel_rfl) rfl plain (by kernel_rfl)
#print axioms card
end Go.Proofs.YtdpfkanfahchjaaDoor.lawCComp
