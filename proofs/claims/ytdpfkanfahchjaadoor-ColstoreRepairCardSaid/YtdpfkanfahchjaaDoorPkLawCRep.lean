/-
  After a crash,an appended segment and a retraction continue from the stream that Load returns,and the log is sound again.
  Conditions: the package-level tables read as the row lists them;the card ties that to the program's text.
-/
import Derived.Test.YtdpfkanfahchjaaDoorPkS3
set_option linter.unusedSimpArgs false
set_option linter.unusedVariables false
namespace Go.Proofs.YtdpfkanfahchjaaDoor.lawCRep
open Go Go.AL Go.ChangeShapes Go.WideShapes Go.ChangeAt Go.RowKit

set_option maxRecDepth 100000 in
theorem contract (H:Type) (enc:TypeId × Value → H) (W:World) (base:Nat) (args:Array Value) (ds gs:List (DataW H)) (before:List MemPlace)
 (hval : ∀ (j:Nat) t v,Tryd.f8.params[j]? = some t → args[j]? = some v → Value.okWide Tryd.prog W .any base t v)
 (hW:DataW.Whole enc Tryd.prog Tryd.f8.params.toList Rows.colstoreRepairSpec.vars false W args.toList ds gs before) (hL:laidMetH Tryd.prog Rows.colstoreRepairRow.laid W) :
 Calls Tryd.prog 8 args W fun e W' => ∃ v,e = .returned v∧Rows.colstoreRepairSpec.post enc Tryd.prog Tryd.f8 false true false false W args v W':=by
 have hW':=hW
 obtain⟨p,q,hA0,hV,rfl,hfz,hnd⟩:=hW
 have hA:DataW.TrodAll enc Tryd.prog W 0 (fun _=>true) true Tryd.f8.params.toList args.toList ds p:=hA0
 rw [Tryd.params8] at hA hval
 obtain⟨v0,vs0,d0,ds0,p0,q0,hargs0,rfl,rfl,t0,r0⟩:=trodAll_cons hA
 obtain⟨v1,vs1,d1,ds1,p1,q1,hargs1,rfl,rfl,t1,r1⟩:=trodAll_cons r0
 obtain⟨v2,vs2,d2,ds2,p2,q2,hargs2,rfl,rfl,t2,r2⟩:=trodAll_cons r1
 obtain⟨rfl,rfl,rfl⟩:=trodAll_nil r2
 subst hargs2
 subst hargs1
 obtain rfl:args = #[v0,v1,v2]:=by cases args;simp_all
 obtain⟨l,hl,hx,e0⟩:=ztx (hval 0 22 v0 rfl rfl) t0
 obtain⟨w,e1⟩:=zty (hval 1 46 v1 rfl rfl) t1
 obtain⟨t,ht,e2⟩:=zsb (hval 2 61 v2 rfl rfl) t2
 have hrel:RelVs σ0 H0 W [.p (.sl false 3 (pl opv l)),.p (w16 w),.p (.sl false 3 (pl tri t))] #[v0,v1,v2]:=⟨rfl,fun i x v h1 h2=>by
  have hi:i < 3:=by have:=(List.getElem?_eq_some_iff.1 h1).1;simpa using this
  rcases Nat.lt_or_ge i 1 with hlt0 | hge0
  · have:i=0:=by omega
    subst this;simp at h1 h2;subst h1;subst h2;exact e0
  rcases Nat.lt_or_ge i 2 with hlt1 | hge1
  · have:i=1:=by omega
    subst this;simp at h1 h2;subst h1;subst h2;exact e1
  have:i=2:=by omega
  subst this;simp at h1 h2;subst h1;subst h2;exact e2⟩
 refine (zon (zo1 zvW zvX l w t hl hx ht _ _ rfl) (zo2 hL) hrel).mono fun e W2 ⟨he,hblk,hos,hout⟩=>⟨_,he,?_⟩
 exact zp4 laidOut (fun t ht=>by rw [Tryd.params8] at ht;simp at ht;rcases ht with rfl | rfl | rfl<;>exact⟨by kernel_rfl,by decide +kernel⟩) rfl hW' rfl rfl Tryd.underlying4 hblk hos hout

theorem reads (os:Os) {H:Type} (enc:TypeId × Value → H) : ∃ places,DataW.whole enc Tryd.prog ((laidWorld os).forCall (fun _ _=>0) ⟨#[],#[.slice none 0 0,.int .u16 0,.slice none 0 0],[]⟩).memory Tryd.f8.params.toList Rows.colstoreRepairSpec.vars false (#[.slice none 0 0,.int .u16 0,.slice none 0 0]:Array Value).toList 8=some ([.nil,.lit (.int .u16 0),.nil],[],places) :=
 ⟨[],by kernel_rfl⟩

set_option maxRecDepth 100000 in
theorem lifted (os:Os) (started:os.Started) (H:Type) (enc:TypeId × Value → H) (F:Stop.Interp) :
 ReturnsInHanded {} Tryd.checked os 8 .any ((OpenSpec.ofChange Rows.colstoreRepairSpec).preRow enc Tryd.prog Tryd.f8 Rows.colstoreRepairRow.domain false Rows.colstoreRepairRow.laid) (((OpenSpec.ofChange Rows.colstoreRepairSpec).at F).post enc Tryd.prog Tryd.f8 false true false false):=by
 obtain⟨places,hx⟩:=reads os enc
 refine returnsInHanded_of_row (C:=Tryd.checked) (s:=OpenSpec.ofChange Rows.colstoreRepairSpec) own started (by kernel_rfl) Tryd.func8
  (witness_row_at (enc:=enc) (C:=Tryd.checked) false (laidWorld os) #[.slice none 0 0,.int .u16 0,.slice none 0 0] rfl (by kernel_rfl) (by kernel_rfl) (by kernel_rfl)
   (OpenSpec.preRow_of_cond 8 hx (by kernel_rfl) (fun k hk=>by cases hk) (by kernel_rfl) (laid_met os _))) ?_
 intro W base args ds gs before hval hW _ _ _ hL _ _
 exact contract H enc W base args ds gs before hval hW hL

theorem said:Rows.ColstoreRepairSaid :=
 OpenClaim.holds_of_cond 8 Tryd.f8 rfl rfl rfl rfl rfl rfl rfl ⟨rfl,rfl,rfl,rfl,rfl⟩ rfl rfl rfl rfl rfl (by kernel_rfl) Tryd.func8 (by kernel_rfl)
  (of_decide_eq_true (by kernel_rfl)) (by unfold Func.isWrapper;first | (rw [if_pos (by decide +kernel)];kernel_rfl) | (rw [if_neg (by decide +kernel)];exact⟨rfl,rfl⟩))
  (fun os started H enc _ F=>by rw [OpenClaim.pre_eq_preRow];exact lifted os started H enc F)

theorem plain (f:FuncId) (fn:Func) (hf:Tryd.pinned.checked.prog.funcNamed Rows.colstoreRepairRow.func=some f) (hfn:Tryd.pinned.checked.prog.funcs[f]? = some fn) :
 false=Tryd.pinned.checked.prog.looks [] ∧ ∀ (j:Nat) t,fn.params[j]? = some t → Tryd.pinned.checked.prog.wantsStandIn t=false:=by
 obtain rfl:f=8:=Option.some.inj ((show Tryd.prog.funcNamed Rows.colstoreRepairRow.func=some 8 by kernel_rfl).symm.trans hf) |>.symm
 obtain rfl:fn=Tryd.f8:=(Option.some.inj (Tryd.func8.symm.trans hfn)).symm
 refine⟨by kernel_rfl,fun j t ht => ?_⟩
 rw [Tryd.params8] at ht
 have hm:=Array.mem_of_getElem? ht
 simp at hm
 rcases hm with rfl | rfl | rfl
 all_goals (show Tryd.prog.wantsStandIn _=false;kernel_rfl)

theorem card:Rows.ColstoreRepairCardSaid :=
 Claim7.holds_tied_plain_at .later [] _ _ _ _ said (fun _ h=>by cases h) (by kernel_rfl) (fun _ h=>by cases h) colstoreRepair_row_tie rfl ⟨rfl,rfl⟩ (by kernel_rfl) rfl plain (by kernel_rfl)
#print axioms card
end Go.Proofs.YtdpfkanfahchjaaDoor.lawCRep
