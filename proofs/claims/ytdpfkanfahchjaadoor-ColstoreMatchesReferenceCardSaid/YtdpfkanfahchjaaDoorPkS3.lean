/-
  The log of readings: Load,by the program.
-/
import Derived.Test.YtdpfkanfahchjaaDoorPkS2
import Derived.Test.YtdpfkanfahchjaaDoorCards
import Derived.Test.YtdpfkanfahchjaaDoorTie
set_option linter.unusedSimpArgs false
set_option linter.unusedVariables false
namespace Go.Proofs.YtdpfkanfahchjaaDoor
open Go Go.AL

def bev (x:BitVec 8):Value := .int .u8 x.toNat
def okB (_:BitVec 8):Prop:=True
def fev (i:FuncId):AV := .clo i [] []
def zem:List (BitVec 8 × FuncId):=[(1#8,61),(2#8,63)]
theorem prsMap:MapT Tryd.prog 75 b8 bev okB fev (.p (.s .nilFunc)) where
 ty:=⟨_,_,Tryd.underlying75,zu6,fun k _=>by
  unfold keyOf
  simp only [Tryd.underlying5,mapKey,bev]
  have:=k.isLt
  rw [if_pos ⟨trivial,by
   simp only [Lit.wf,Bool.and_eq_true,decide_eq_true_eq]
   exact⟨by show (0:Int)≤_;omega,by show _≤(255:Int);omega⟩⟩]
  rfl,zkd⟩
 val k:=rfl
 inj a b _ _ h:=by
  unfold bev at h
  simp only [Value.int.injEq,true_and] at h
  exact BitVec.eq_of_toNat_eq (by omega)
def zw2:Option AV → Option AV → Option AV → Option AV
 | some x,some y,some z=>some (.tup [x,y,z])
 | _,_,_=>none
theorem zpX {x y z:AV}:zw2 (some x) (some y) (some z)=some (.tup [x,y,z]):=rfl
theorem ztx {P:Program} {a t u:Nat} {ty:TypeId} {env:Env} {H:Hp}:zcW P [.cell a ty,.tmp t,.tmp u] env H=zw2 (zaQ P H ty (env a)) (some (env t)) (some (env u)):=by
 simp only [zcW,zaV,zb0]
 cases zaQ P H ty (env a)<;>rfl
attribute [go_sem] ztx zpX
theorem ziw:zaT .nilFunc = .p (.s .nilFunc):=rfl
attribute [go_sem] ziw
theorem yc {n:Nat} {B H:Hp} (h:B.trunc n=H.trunc n) (hb:Bel n H):Bel n B:=fun b x hbn hx y hy=>by
 have h1:(B.trunc n).f b=(H.trunc n).f b:=by rw [h]
 simp only [Hp.trunc,hbn,if_true] at h1
 exact hb b x hbn (by rw [←h1];exact hx) y hy
theorem zd6 {C:Cx} {todo:List Item} {env:Env} {B:Hp} {R:AV → Hp → Prop} (c α β:Nat) (l:List Rdg) (g:List Bool) (hc:B.f c=some (.cells [.vr α l.length 4,.vr β g.length 1])) (hα:B.f α=some (.vec (rcl l))) (hβ:B.f β=some (.vec (cl bo g))) (hαβ:α≠β) (h1:c≠α) (h2:c≠β)
 (h : ∀ B',B'.n=B.n → B'.f c=some (.cells [.p (.sl false 4 (pl zy l)),.p (.sl false 1 (pl bo g))]) → (∀ b,b≠c → b≠α → b≠β → B'.f b=B.f b) → (∀ n,n≤c → n≤α → n≤β → B'.trunc n=B.trunc n) → ARun C todo env B' R):ARun C todo env B R:=by
 have hcn:=Hp.lt hc
 have hαn:=Hp.lt hα
 have hβn:=Hp.lt hβ
 refine .frzCell c 0 α (x := .vr α l.length 4) (y := .p (.sl false 4 (pl zy l))) hc rfl h1 (fun σ w v hr hs=>zjY hr (xs:=pl zy l) (cs:=rcl l) (by rw [hα];rfl) zf8 (by rw [zao]) (znV l) hs) ?_
 have e1:((B.set α .dead).set c (.cells ([AV.vr α l.length 4,AV.vr β g.length 1].set 0 (.p (.sl false 4 (pl zy l)))))).f c=some (.cells [.p (.sl false 4 (pl zy l)),.vr β g.length 1]):=Hp.f_set_self _ _ _ (by rw [Hp.n_set];exact hcn)
 have e2:((B.set α .dead).set c (.cells ([AV.vr α l.length 4,AV.vr β g.length 1].set 0 (.p (.sl false 4 (pl zy l)))))).f β=some (.vec (cl bo g)):=by
  rw [Hp.f_set_ne _ _ _ _ (Ne.symm h2),Hp.f_set_ne _ _ _ _ (Ne.symm hαβ)];exact hβ
 refine .frzCell c 1 β (x := .vr β g.length 1) (y := .p (.sl false 1 (pl bo g))) e1 rfl h2 (fun σ w v hr hs=>zjY hr (xs:=pl bo g) (cs:=cl bo g) (by rw [e2];rfl) (by rw [flat_bo',zhP]) (by rw [zao]) zii hs) ?_
 refine h _ rfl (Hp.f_set_self _ _ _ (by simp only [Hp.n_set];exact hcn)) (fun b b1 b2 b3 => ?_) (fun n n1 n2 n3 => ?_)
 · rw [Hp.f_set_ne _ _ _ _ b1,Hp.f_set_ne _ _ _ _ b3,Hp.f_set_ne _ _ _ _ b1,Hp.f_set_ne _ _ _ _ b2]
 · refine Hp.ext (fun b => ?_) rfl
   simp only [Hp.trunc]
   by_cases hb:b < n
   · rw [if_pos hb,if_pos hb,Hp.f_set_ne _ _ _ _ (by omega),Hp.f_set_ne _ _ _ _ (by omega),Hp.f_set_ne _ _ _ _ (by omega),Hp.f_set_ne _ _ _ _ (by omega)]
   · rw [if_neg hb,if_neg hb]
structure LdS where
 B:Hp
 s:Strm
 α:Nat
 β:Nat
 b:By
structure LQ (H:Hp) (d:By) (s0:Int) (x:LdS):Prop where
 n:H.n+6≤x.B.n
 f1:x.B.f H.n=some (.cells [.p (.sl false 1 (pl b8 d)),.p (i64 s0)])
 f2:x.B.f (H.n+1)=some (.cells [.p (.sl true 4 []),.p (.sl true 1 [])])
 f5:x.B.f (H.n+2)=some (.cells [.vr x.α x.s.l.length 4,.vr x.β x.s.gone.length 1])
 fm:x.B.f (H.n+5)=some (.mapB (tm bev fev zem))
 fα:x.B.f x.α=some (.vec (rcl x.s.l))
 fβ:x.B.f x.β=some (.vec (cl bo x.s.gone))
 αβ:x.α≠x.β
 α3:H.n+3≤x.α
 β3:H.n+3≤x.β
 ok:SOk x.s
 ld:ld z0S d=ld x.s x.b
 le:x.b.length≤d.length
 tr:x.B.trunc H.n=H
theorem zm4 {s s':Strm} {p:By} (h:zY s 2#8 p=some s'):s'.l=s.l:=by
 have h':zY ⟨s.l,s.gone⟩ 2#8 p=some s':=h
 rw [zd5] at h'
 split at h'
 · unfold zdn at h'
   split at h'
   · cases h';rfl
   · cases h'
 · cases h'
def LdP (H B:Hp) (s:Strm) (α β:Nat) (k:BitVec 8) (p:By) (x:AV) (H':Hp):Prop :=
 (zY s k p=none ∧ ∃ y T,(∃ u v,zi y=some [u,v])∧x = .tup [y,.p (bo false)]∧H'=app B T) ∨
 ∃ s' γ,zY s k p=some s'∧x = .tup [.agg [.vr α s'.l.length 4,.vr γ s'.gone.length 1],.p (bo true)]∧H'.f α=some (.vec (rcl s'.l))∧H'.f γ=some (.vec (cl bo s'.gone))∧α≠γ∧(γ=β ∨ B.n≤γ) ∧
  (∀ b,b≠α → b≠γ → b < B.n → H'.f b=B.f b)∧B.n≤H'.n∧H'.trunc H.n=H
theorem zbA {H B H':Hp} {d b r:By} {s0:Int} {s s':Strm} {α β γ:Nat} (hQ:LQ H d s0 ⟨B,s,α,β,b⟩) (p1:H'.f α=some (.vec (rcl s'.l))) (p2:H'.f γ=some (.vec (cl bo s'.gone))) (p3:α≠γ) (p4:γ=β ∨ B.n≤γ)
 (p5 : ∀ b,b≠α → b≠γ → b < B.n → H'.f b=B.f b) (p6:B.n≤H'.n) (p7:H'.trunc H.n=H) (hok:SOk s') (hst:ld s b=ld s' r) (hr:r.length≤b.length) :
 LQ H d s0 ⟨(H'.new (.cells [.vr α s'.l.length 4,.vr γ s'.gone.length 1])).set (H.n+2) (.cells [.vr α s'.l.length 4,.vr γ s'.gone.length 1]),s',α,γ,r⟩:=by
 obtain⟨hn,f1,f2,f5,fm,fα,fβ,αβ,α3,β3,ok,hld,hle,tr⟩:=hQ
 dsimp only at hn f1 f2 f5 fm fα fβ αβ α3 β3 ok hld hle tr
 have hα5:α≠H.n+5:=fun e=>by rw [e,fm] at fα;cases fα
 have hβ5:β≠H.n+5:=fun e=>by rw [e,fm] at fβ;cases fβ
 have hγ3:H.n+3≤γ:=by rcases p4 with rfl | h<;>omega
 have hγ5:H.n+5≠γ:=by rcases p4 with rfl | h<;>omega
 have hαn:=Hp.lt p1
 have hγn:=Hp.lt p2
 have old : ∀ b,b≠H.n+2 → b < H'.n → ((H'.new (.cells [.vr α s'.l.length 4,.vr γ s'.gone.length 1])).set (H.n+2) (.cells [.vr α s'.l.length 4,.vr γ s'.gone.length 1])).f b=H'.f b:=fun b h1 h2=>by
  rw [Hp.f_set_ne _ _ _ _ h1,Hp.f_new_old _ _ _ h2]
 refine⟨?_,?_,?_,?_,?_,?_,?_,p3,α3,hγ3,hok,hld.trans hst,by dsimp only;omega,?_⟩<;>dsimp only
 · rw [Hp.n_set,n_new'];omega
 · rw [old _ (by omega) (by omega),p5 _ (by omega) (by omega) (by omega)];exact f1
 · rw [old _ (by omega) (by omega),p5 _ (by omega) (by omega) (by omega)];exact f2
 · exact Hp.f_set_self _ _ _ (by rw [n_new'];omega)
 · rw [old _ (by omega) (by omega),p5 _ (Ne.symm hα5) hγ5 (by omega)];exact fm
 · rw [old _ (by omega) hαn];exact p1
 · rw [old _ (by omega) hγn];exact p2
 · rw [Hp.trunc_set _ _ _ _ (by omega),Hp.trunc_new _ _ _ (by omega)];exact p7
section walks
variable {G:Globs}
theorem zix (H:Hp) (R:AV → Hp → Prop) (h:R (.mp H.n) (H.new (.mapB (tm bev fev zem)))):ACall Tryd.prog G 36 [] H R:=by
 have p1 : ∀ (H:Hp) (b:Nat),zg3 Tryd.prog H 75 b (some []) (.p (b8 1#8)) (.clo 61 [] [])=some (H.set b (.mapB (tm bev fev [(1#8,61)]))):=fun H b=>prsMap.put (m:=[]) (by simp) trivial
 have p2 : ∀ (H:Hp) (b:Nat),zg3 Tryd.prog H 75 b (some (tm bev fev [(1#8,61)])) (.p (b8 2#8)) (.clo 63 [] [])=some (H.set b (.mapB (tm bev fev zem))):=fun H b=>prsMap.put (fun _ _=>trivial) trivial
 refine ACall.of_run (raw:=[]) Tryd.func36 rfl Tryd.ntmps36 (by simp) fun hbel => ?_
 refine .q ?_;refine .text ?_;simp (disch:=first|exact za|fail) only [go_sem,seval,-List.reduceReplicate]
 refine .q ?_;refine .text ?_;simp (disch:=first|exact za|fail) only [go_sem,seval,-List.reduceReplicate,p1,p2]
 refine .q ?_;refine .retKeep Tryd.func36 (by rw [Tryd.results36]) (by simp (disch:=first|exact za|fail) only [go_sem,seval,-List.reduceReplicate];rfl) ?_;(try simp (disch:=first|exact za|fail) only [go_sem,seval,-List.reduceReplicate])
 exact h
set_option maxHeartbeats 4000000 in
set_option maxRecDepth 20000 in
theorem zas (hG0:G 0=some (8,[.agg (pl zw inits)])) (hG1:G 1=some (64,[.agg (pl zw ks)])) (d:By) (s0:Int) (hd:d.length≤140737488353000) (H:Hp) (R:AV → Hp → Prop) (h:R (.tup [.p (stm (lS d)),.p (i64 (lN d:Nat)),.p (i64 (lE d))]) H):ACall Tryd.prog G 11 [.p (sto d s0)] H R:=by
 refine ACall.of_run (raw:=[]) Tryd.func11 rfl Tryd.ntmps11 (by simp) fun hbel => ?_
 refine .q ?_;refine .text ?_;simp (disch:=first|exact za|fail) only [go_sem,seval,-List.reduceReplicate]
 refine .q ?_;refine .text ?_;simp (disch:=first|exact za|fail) only [go_sem,seval,-List.reduceReplicate]
 (repeat refine .z rfl ?_);refine .vecC (H.n+2) 0 (by simp (disch:=first|exact za|fail) only [go_sem,seval,-List.reduceReplicate];rfl) (by rfl) ?_;simp (disch:=first|exact za|fail) only [go_sem,seval,-List.reduceReplicate,List.set_cons_zero]
 (repeat refine .z rfl ?_);refine .vecC (H.n+2) 1 (by simp (disch:=first|exact za|fail) only [go_sem,seval,-List.reduceReplicate];rfl) (by rfl) ?_;simp (disch:=first|exact za|fail) only [go_sem,seval,-List.reduceReplicate,List.set_cons_zero,List.set_cons_succ]
 have hpar : ∀ B:Hp,ACall Tryd.prog G 36 [] B (fun r H'=>r = .mp B.n∧H'=B.new (.mapB (tm bev fev zem))):=fun B=>zix B _ ⟨rfl,rfl⟩
 obtain⟨B0,hB0⟩ : ∃ B0,B0=(((((H.new (.cells [.p (.sl false 1 (pl b8 d)),.p (i64 s0)])).new (.cells [.p (.sl true 4 []),.p (.sl true 1 [])])).new (.cells [.vr (H.n+3) 0 4,.vr (H.n+4) 0 1])).new (.vec [])).new (.vec [])).new (.mapB (tm bev fev zem)):=⟨_,rfl⟩
 refine .q ?_;refine .cutH [1,2,5] [(6,.mp (H.n+5)),(7,.p (.sl false 1 (pl b8 d)))] (B0) (fun ihF => ?_) (fun env F => ?_)
 rotate_left 1
 simp (disch:=first|exact za|fail) only [go_sem,seval,-List.reduceReplicate] at F
 rotate_left 1
 · refine .openTr (.one 1 (.fork 0 2 (.lin [2,3,4]) (.lin [0,3,4]))) [0] follows (by kernel_rfl) ?_
   refine zB (.ptr H.n 0) rfl rfl (by simp (disch:=first|exact za|fail) only [go_sem,seval,-List.reduceReplicate]<;>rfl) rfl ?_
   refine And.intro (zef rfl rfl (by simp (disch:=first|exact za|fail) only [go_sem,seval,-List.reduceReplicate]<;>rfl) (by rfl) rfl (hpar _) fun r H' ⟨e1,e2⟩ => ?_) (zB (.p (.sl false 1 (pl b8 d))) rfl rfl (by simp (disch:=first|exact za|fail) only [go_sem,seval,-List.reduceReplicate]<;>rfl) rfl ?_)
   · subst e1 e2
     refine zT [] (by kernel_rfl) ?_
     simp (disch:=first|exact za|fail) only [go_sem,seval,-List.reduceReplicate]
     first | (refine ihF _ _ ?_ ?_) | (refine .z rfl ?_;refine ihF _ _ ?_ ?_) | (refine .z rfl ?_;refine .z rfl ?_;refine ihF _ _ ?_ ?_) | (refine .z rfl ?_;refine .z rfl ?_;refine .z rfl ?_;refine ihF _ _ ?_ ?_)
     · simp (disch:=first|exact za|fail) only [go_sem,seval,-List.reduceReplicate]<;>(repeat' (first | rfl | refine And.intro ?_ ?_))
     · exact hB0.symm
   · refine zT [0] (by kernel_rfl) ?_
     simp (disch:=first|exact za|fail) only [go_sem,seval,-List.reduceReplicate]
     refine CallD.moves (hpar _) fun r H' ⟨e1,e2⟩ => ?_
     subst e1 e2
     simp (disch:=first|exact za|fail) only [go_sem,seval,-List.reduceReplicate]
     first | (refine ihF _ _ ?_ ?_) | (refine .z rfl ?_;refine ihF _ _ ?_ ?_) | (refine .z rfl ?_;refine .z rfl ?_;refine ihF _ _ ?_ ?_) | (refine .z rfl ?_;refine .z rfl ?_;refine .z rfl ?_;refine ihF _ _ ?_ ?_)
     · simp (disch:=first|exact za|fail) only [go_sem,seval,-List.reduceReplicate]<;>(repeat' (first | rfl | refine And.intro ?_ ?_))
     · exact hB0.symm
 · have q0:LQ H d s0 ⟨B0,z0S,H.n+3,H.n+4,d⟩:=by
    subst hB0
    refine⟨?_,?_,?_,?_,?_,?_,?_,by dsimp only;omega,by dsimp only;omega,by dsimp only;omega,zm2,rfl,Nat.le_refl _,?_⟩<;>dsimp only
    · exact Nat.le_refl _
    · simp (disch:=first|exact za|fail) only [go_sem,seval,-List.reduceReplicate]
    · simp (disch:=first|exact za|fail) only [go_sem,seval,-List.reduceReplicate]
    · simp (disch:=first|exact za|fail) only [go_sem,seval,-List.reduceReplicate]
      rfl
    · simp (disch:=first|exact za|fail) only [go_sem,seval,-List.reduceReplicate]
    · simp (disch:=first|exact za|fail) only [go_sem,seval,-List.reduceReplicate]
      rfl
    · simp (disch:=first|exact za|fail) only [go_sem,seval,-List.reduceReplicate]
      rfl
    · simp (disch:=first|exact za|fail) only [go_sem,seval,-List.reduceReplicate]
   clear hB0
   refine .q ?_;refine .loopK (S:=LdS) [1,2,5,6] (fun x=>[(7,.p (.sl false 1 (pl b8 x.b)))]) (fun x=>x.B) (fun x=>LQ H d s0 x) (fun x=>x.b.length) (⟨B0,z0S,H.n+3,H.n+4,d⟩) ?_ (by first | rfl | (simp (disch:=first|exact za|fail) only [go_sem,seval,-List.reduceReplicate,F]<;>rfl)) ?_ ?_
   · simp (disch:=first|exact za|fail) only [go_sem,seval,-List.reduceReplicate,F]<;>(repeat' (first | rfl | refine And.intro ?_ ?_))
   rotate_left 1
   intro x env E hQ ihE;simp (disch:=first|exact za|fail) only [go_sem,seval,-List.reduceReplicate,F] at E
   rotate_left 1
   · exact q0
   · obtain⟨B,s,α,β,b⟩:=x
     obtain⟨hn,f1,f2,f5,fm,fα,fβ,αβ,α3,β3,ok,hld,hle,tr⟩:=hQ
     dsimp only at hn f1 f2 f5 fm fα fβ αβ α3 β3 ok hld hle tr E ⊢
     have hQ0:LQ H d s0 ⟨B,s,α,β,b⟩:=⟨hn,f1,f2,f5,fm,fα,fβ,αβ,α3,β3,ok,hld,hle,tr⟩
     have hc1:H.n+2≠α:=by omega
     have hc2:H.n+2≠β:=by omega
     have hbelB:Bel H.n B:=yc (by rw [tr];exact (Hp.trunc_self H).symm) hbel
     have hres : ∀ q,ld s b=q → lS d=q.1∧lN d=d.length - q.2.1∧lE d=if q.2.2 then 0 else 270:=fun q e=>by
      unfold lS lN lE
      rw [hld,e]
      exact⟨rfl,rfl,rfl⟩
     have lk : ∀ k v,zcD k zem=some v → zex Tryd.prog 75 (some (tm bev fev zem)) (.p (b8 k)) false=some (.clo v [] []):=fun k v e=>by
      have:=prsMap.at (m:=zem) (k:=k) (fun _ _=>trivial) trivial
      rw [e] at this
      exact this
     have lkn : ∀ k,zcD k zem=none → zex Tryd.prog 75 (some (tm bev fev zem)) (.p (b8 k)) false=some (.p (.s .nilFunc)):=fun k e=>by
      have:=prsMap.at (m:=zem) (k:=k) (fun _ _=>trivial) trivial
      rw [e] at this
      exact this
     have hspec : ∀ p:By,p.length≤1048576 → ∀ k f,zcD k zem=some f → ACall Tryd.prog G f [.agg [.vr α s.l.length 4,.vr β s.gone.length 1],.p (.sl false 1 (pl b8 p))] B (LdP H B s α β k p):=fun p hp k f hf=>by
      have hkf:(k=1#8∧f=61) ∨ (k=2#8∧f=63):=by
       change (if 1#8=k then some 61 else if 2#8=k then some 63 else none)=some f at hf
       split at hf
       · rename_i e;cases hf;exact .inl ⟨e.symm,rfl⟩
       · split at hf
         · rename_i e;cases hf;exact .inr ⟨e.symm,rfl⟩
         · cases hf
      have hαn:=Hp.lt fα
      have hβn:=Hp.lt fβ
      rcases hkf with ⟨rfl,rfl⟩ | ⟨rfl,rfl⟩
      · refine zir α β αβ s.l s.gone p ok.2 ok.1 hp B fα fβ _ (fun e x T hx => .inl ⟨e,x,T,hx,rfl,rfl⟩) fun s' e T => .inr ⟨s',β,e,rfl,?_,?_,αβ,.inl rfl,fun b h1 h2 h3 => ?_,?_,?_⟩
        · simp (disch:=first|exact za|fail) only [go_sem,seval,-List.reduceReplicate]
        · simp (disch:=first|exact za|fail) only [go_sem,seval,-List.reduceReplicate]
        · rw [zcd (by simp (disch:=first|exact za|fail) only [go_sem,seval,-List.reduceReplicate];exact h3),Hp.f_set_ne _ _ _ _ h2,Hp.f_set_ne _ _ _ _ h1]
        · rw [app_n'];show _≤B.n+_;omega
        · rw [zbL (by simp (disch:=first|exact za|fail) only [go_sem,seval,-List.reduceReplicate];omega)];simp (disch:=first|exact za|fail) only [go_sem,seval,-List.reduceReplicate];exact tr
      · refine zis α β s.l s.gone p ok.2 ok.1 B fα fβ _ (fun e x T hx => .inl ⟨e,x,T,hx,rfl,rfl⟩) fun s' e γ T h1 h2 h3 => .inr ⟨s',γ,e,rfl,?_,h3,by omega,.inr h1,fun b h1 h2 h3 => ?_,?_,?_⟩
        · rw [zcd hαn,fα,zm4 e]
        · exact zcd h3
        · rw [app_n'];omega
        · rw [zbL (by omega)];exact tr
     have hft:zbT Tryd.prog 79=true:=by kernel_rfl
     by_cases c0:b.length=0
     · have d0:decide ((0:Int) < (b.length:Int))=false:=decide_eq_false (by omega)
       have hb0:b=[]:=List.eq_nil_of_length_eq_zero c0
       refine .q ?_;refine .text ?_;simp (disch:=first|exact za|fail) only [go_sem,seval,-List.reduceReplicate,E,F,d0]
       refine .q ?_;refine .ifF (by simp (disch:=first|exact za|fail) only [go_sem,seval,-List.reduceReplicate]) ?_
       subst hb0
       have hl:ld s []=(s,0,true):=zcH
       rw [(hres _ hl).1,(hres _ hl).2.1,(hres _ hl).2.2,if_pos rfl,Nat.sub_zero] at h
       refine .q ?_;refine zd6 (H.n+2) α β s.l s.gone f5 fα fβ αβ hc1 hc2 fun B' b1 b2 b3 b4 => ?_
       have g1:B'.f H.n=some (.cells [.p (.sl false 1 (pl b8 d)),.p (i64 s0)]):=(b3 _ (by omega) (by omega) (by omega)).trans f1
       have g2:B'.f (H.n+1)=some (.cells [.p (.sl true 4 []),.p (.sl true 1 [])]):=(b3 _ (by omega) (by omega) (by omega)).trans f2
       have tr':B'.trunc H.n=H:=(b4 _ (by omega) (by omega) (by omega)).trans tr
       have hbel:Bel H.n B':=yc (by rw [tr'];exact (Hp.trunc_self H).symm) hbel
       have hn':H.n+1 < B'.n:=by rw [b1];exact (by omega)
       have hs0:B'.set (H.n+1) (.cells [.p (.sl true 4 []),.p (.sl true 1 [])])=B':=Hp.set_same _ _ _ g2
       (refine .q ?_)
       refine .openInv (fun L env' H'=>kF env' [(1,.ptr H.n 0),(2,.ptr (H.n+1) 0),(5,.ptr (H.n+2) 0)]∧kI L env' [(0,61,.p (.agg [.sl false 4 (pl zy s.l),.sl false 1 (pl bo s.gone)])),(1,62,.ptr H.n 0),(2,63,.p (.sl false 1 (pl b8 d))),(3,64,.p (i64 d.length)),(5,3,.p (i64 d.length)),(6,4,.p (i64 0))]∧(L 4=true → allT L [0])∧H'=(B'.set (H.n+1) (.cells (if L 4 then [.p (.sl false 4 (pl zy s.l)),.p (.sl false 1 (pl bo s.gone))] else [.p (.sl true 4 []),.p (.sl true 1 [])])))) follows (by kernel_rfl) ?_ ?_ ?_
       · exact⟨(by simp (disch:=first|exact za|fail) only [go_sem,seval,-List.reduceReplicate,kFi,kFn,and_self,E,F,g1,g2,b2,b1,hs0]),(fun _ _ h=>by cases h),(fun h=>by cases h),(by first | rfl | (simp only [Bool.false_eq_true,if_false];first | rfl | (simp (disch:=first|exact za|fail) only [go_sem,seval,-List.reduceReplicate,E,F,g1,g2,b2,b1,hs0]<;>rfl)))⟩
       · intro i o L env' H' ho hL hall hI
         obtain⟨KF,KG,m4,rfl⟩:=hI
         rcases i with _ | _ | _ | _ | _ | _ | _ | i
         · cases ho;have n4:=nfT m4 hL;have f2:=yJ KF 2 rfl;refine zf (.p (.agg [.sl false 4 (pl zy s.l),.sl false 1 (pl bo s.gone)])) rfl rfl (by simp (disch:=first|exact za|fail) only [go_sem,seval,-List.reduceReplicate,reduceIte,Bool.false_eq_true,if_false,if_true,f2,n4,hL,g1,g2,b2,b1,hs0]<;>rfl) rfl ?_;exact⟨ya KF,yb KG,ka m4,(by rw [zb (by decide)])⟩
         · cases ho;have f0:=yJ KF 0 rfl;refine zf (.ptr H.n 0) rfl rfl (by simp (disch:=first|exact za|fail) only [go_sem,seval,-List.reduceReplicate,f0,g1,g2,b2,b1,hs0]<;>rfl) rfl ?_;exact⟨ya KF,yb KG,ka m4,(by rw [zb (by decide)])⟩
         · cases ho;have d1:=zO KG 1 rfl (kL hall 0 rfl rfl);refine zf (.p (.sl false 1 (pl b8 d))) rfl rfl (by simp (disch:=first|exact za|fail) only [go_sem,seval,-List.reduceReplicate,d1,g1,g2,b2,b1,hs0]<;>rfl) rfl ?_;exact⟨ya KF,yb KG,ka m4,(by rw [zb (by decide)])⟩
         · cases ho;have d2:=zO KG 2 rfl (kL hall 0 rfl rfl);refine zf (.p (i64 d.length)) rfl rfl (by simp (disch:=first|exact za|fail) only [go_sem,seval,-List.reduceReplicate,d2,g1,g2,b2,b1,hs0]<;>rfl) rfl ?_;exact⟨ya KF,yb KG,ka m4,(by rw [zb (by decide)])⟩
         · cases ho;have h0:=kL hall 0 rfl rfl;have d0:=zO KG 0 rfl h0;have f1:=yJ KF 1 rfl;refine zaF rfl rfl (by simp (disch:=first|exact za|fail) only [go_sem,seval,-List.reduceReplicate,reduceIte,Bool.false_eq_true,if_false,if_true,f1,d0,hL,g1,g2,b2,b1,hs0]<;>rfl) rfl ?_;exact⟨KF,kIs KG,(fun _=>kt (zg h0 z8)),(by (have e4:more L 4 4=true:=yA);(try simp only [e4,hL]);first | done | rfl | (simp only [e4,hL,if_true,if_false,Bool.false_eq_true];first | done | rfl | (simp (disch:=first|exact za|fail) only [go_sem,seval,-List.reduceReplicate,e4,hL,g1,g2,b2,b1,hs0]<;>rfl)))⟩
         · cases ho;have d3:=zO KG 3 rfl (kL hall 0 rfl rfl);refine zf (.p (i64 d.length)) rfl rfl (by simp (disch:=first|exact za|fail) only [go_sem,seval,-List.reduceReplicate,d3,g1,g2,b2,b1,hs0]<;>rfl) rfl ?_;exact⟨ya KF,yb KG,ka m4,(by rw [zb (by decide)])⟩
         · cases ho;refine zf (.p (i64 0)) rfl rfl (by simp (disch:=first|exact za|fail) only [go_sem,seval,-List.reduceReplicate,g1,g2,b2,b1,hs0]<;>rfl) rfl ?_;exact⟨ya KF,yb KG,ka m4,(by rw [zb (by decide)])⟩
         · simp at ho
       · intro L env' H' hall hI
         obtain⟨KF,KG,_,rfl⟩:=hI
         have l4:=hall 4 (by decide)
         have f0:=yJ KF 0 rfl
         have f1:=yJ KF 1 rfl
         have f2:=yJ KF 2 rfl
         have g1:=zO KG 1 rfl (hall 1 (by decide))
         have g2:=zO KG 2 rfl (hall 2 (by decide))
         have g5:=zO KG 4 rfl (hall 5 (by decide))
         have g6:=zO KG 5 rfl (hall 6 (by decide))
         simp only [l4,if_true]
         clear hall
         refine .q ?_;refine .rt Tryd.func11 (by rw [Tryd.results11]) (hx:=by simp (disch:=first|exact za|fail) only [go_sem,seval,-List.reduceReplicate,f1,g5,g6,tr'];rfl) (hR := ?_);simp (disch:=first|exact za|fail) only [go_sem,seval,-List.reduceReplicate,f1,g5,g6,tr']
         exact h
     · have d0:decide ((0:Int) < (b.length:Int))=true:=decide_eq_true (by omega)
       refine .q ?_;refine .text ?_;simp (disch:=first|exact za|fail) only [go_sem,seval,-List.reduceReplicate,E,F,d0]
       refine .q ?_;refine .ifT (by simp (disch:=first|exact za|fail) only [go_sem,seval,-List.reduceReplicate]) ?_
       refine .q ?_;refine .text ?_;simp (disch:=first|exact za|fail) only [go_sem,seval,-List.reduceReplicate,E,F]
       refine CallK.of (fun R h=>zmZ hG0 hG1 b (by omega) _ R h) ?_;simp (disch:=first|exact za|fail) only [go_sem,seval,-List.reduceReplicate,E,F]
       have hdi:((d.length - b.length:Nat):Int)=(d.length:Int) - (b.length:Int):=by omega
       cases hs:spl b with
       | none =>
        have hv:zgG b=((0#8,[],[]),false):=by rw [zgG,hs]
        have lk0:=lkn 0#8 rfl
        have hl:ld s b=(s,b.length,false):=zdQ c0 hs
        rw [(hres _ hl).1,(hres _ hl).2.1,(hres _ hl).2.2,if_neg (by exact Bool.false_ne_true),hdi] at h
        rw [hv]
        refine .q ?_;refine .text ?_;simp (disch:=first|exact za|fail) only [go_sem,seval,-List.reduceReplicate,E,F,fm,lk0]
        refine .q ?_;refine .text ?_;simp (disch:=first|exact za|fail) only [go_sem,seval,-List.reduceReplicate,E,F]
        refine .q ?_;refine .ifT (by simp (disch:=first|exact za|fail) only [go_sem,seval,-List.reduceReplicate]) ?_
        refine .q ?_;refine zd6 (H.n+2) α β s.l s.gone f5 fα fβ αβ hc1 hc2 fun B' b1 b2 b3 b4 => ?_
        have g1:B'.f H.n=some (.cells [.p (.sl false 1 (pl b8 d)),.p (i64 s0)]):=(b3 _ (by omega) (by omega) (by omega)).trans f1
        have g2:B'.f (H.n+1)=some (.cells [.p (.sl true 4 []),.p (.sl true 1 [])]):=(b3 _ (by omega) (by omega) (by omega)).trans f2
        have tr':B'.trunc H.n=H:=(b4 _ (by omega) (by omega) (by omega)).trans tr
        have hbel:Bel H.n B':=yc (by rw [tr'];exact (Hp.trunc_self H).symm) hbel
        have hn':H.n+1 < B'.n:=by rw [b1];exact (by omega)
        have hs0:B'.set (H.n+1) (.cells [.p (.sl true 4 []),.p (.sl true 1 [])])=B':=Hp.set_same _ _ _ g2
        (refine .q ?_)
        refine .openInv (fun L env' H'=>kF env' [(1,.ptr H.n 0),(2,.ptr (H.n+1) 0),(5,.ptr (H.n+2) 0),(7,.p (.sl false 1 (pl b8 b)))]∧kI L env' [(0,36,.p (.agg [.sl false 4 (pl zy s.l),.sl false 1 (pl bo s.gone)])),(1,37,.ptr H.n 0),(2,38,.p (.sl false 1 (pl b8 d))),(3,39,.p (i64 d.length)),(4,40,.p (.sl false 1 (pl b8 b))),(5,41,.p (i64 b.length)),(6,42,.p (i64 ((d.length:Int) - (b.length:Int)))),(8,3,.p (i64 ((d.length:Int) - (b.length:Int)))),(9,4,.p (i64 270))]∧(L 7=true → allT L [0])∧H'=(B'.set (H.n+1) (.cells (if L 7 then [.p (.sl false 4 (pl zy s.l)),.p (.sl false 1 (pl bo s.gone))] else [.p (.sl true 4 []),.p (.sl true 1 [])])))) follows (by kernel_rfl) ?_ ?_ ?_
        · exact⟨(by simp (disch:=first|exact za|fail) only [go_sem,seval,-List.reduceReplicate,kFi,kFn,and_self,E,F,g1,g2,b2,b1,hs0]),(fun _ _ h=>by cases h),(fun h=>by cases h),(by first | rfl | (simp only [Bool.false_eq_true,if_false];first | rfl | (simp (disch:=first|exact za|fail) only [go_sem,seval,-List.reduceReplicate,E,F,g1,g2,b2,b1,hs0]<;>rfl)))⟩
        · intro i o L env' H' ho hL hall hI
          obtain⟨KF,KG,m7,rfl⟩:=hI
          rcases i with _ | _ | _ | _ | _ | _ | _ | _ | _ | _ | i
          · cases ho;have n7:=nfT m7 hL;have f2:=yJ KF 2 rfl;refine zf (.p (.agg [.sl false 4 (pl zy s.l),.sl false 1 (pl bo s.gone)])) rfl rfl (by simp (disch:=first|exact za|fail) only [go_sem,seval,-List.reduceReplicate,reduceIte,Bool.false_eq_true,if_false,if_true,f2,n7,hL,g1,g2,b2,b1,hs0]<;>rfl) rfl ?_;exact⟨ya KF,yb KG,ka m7,(by rw [zb (by decide)])⟩
          · cases ho;have f0:=yJ KF 0 rfl;refine zf (.ptr H.n 0) rfl rfl (by simp (disch:=first|exact za|fail) only [go_sem,seval,-List.reduceReplicate,f0,g1,g2,b2,b1,hs0]<;>rfl) rfl ?_;exact⟨ya KF,yb KG,ka m7,(by rw [zb (by decide)])⟩
          · cases ho;have d1:=zO KG 1 rfl (kL hall 0 rfl rfl);refine zf (.p (.sl false 1 (pl b8 d))) rfl rfl (by simp (disch:=first|exact za|fail) only [go_sem,seval,-List.reduceReplicate,d1,g1,g2,b2,b1,hs0]<;>rfl) rfl ?_;exact⟨ya KF,yb KG,ka m7,(by rw [zb (by decide)])⟩
          · cases ho;have d2:=zO KG 2 rfl (kL hall 0 rfl rfl);refine zf (.p (i64 d.length)) rfl rfl (by simp (disch:=first|exact za|fail) only [go_sem,seval,-List.reduceReplicate,d2,g1,g2,b2,b1,hs0]<;>rfl) rfl ?_;exact⟨ya KF,yb KG,ka m7,(by rw [zb (by decide)])⟩
          · cases ho;have f3:=yJ KF 3 rfl;refine zf (.p (.sl false 1 (pl b8 b))) rfl rfl (by simp (disch:=first|exact za|fail) only [go_sem,seval,-List.reduceReplicate,f3,g1,g2,b2,b1,hs0]<;>rfl) rfl ?_;exact⟨ya KF,yb KG,ka m7,(by rw [zb (by decide)])⟩
          · cases ho;have d4:=zO KG 4 rfl (kL hall 0 rfl rfl);refine zf (.p (i64 b.length)) rfl rfl (by simp (disch:=first|exact za|fail) only [go_sem,seval,-List.reduceReplicate,d4,g1,g2,b2,b1,hs0]<;>rfl) rfl ?_;exact⟨ya KF,yb KG,ka m7,(by rw [zb (by decide)])⟩
          · cases ho;have d3:=zO KG 3 rfl (kL hall 0 rfl rfl);have d5:=zO KG 5 rfl (kL hall 1 rfl rfl);refine zf (.p (i64 ((d.length:Int) - (b.length:Int)))) rfl rfl (by simp (disch:=first|exact za|fail) only [go_sem,seval,-List.reduceReplicate,d3,d5,g1,g2,b2,b1,hs0]<;>rfl) rfl ?_;exact⟨ya KF,yb KG,ka m7,(by rw [zb (by decide)])⟩
          · cases ho;have h0:=kL hall 0 rfl rfl;have d0:=zO KG 0 rfl h0;have f1:=yJ KF 1 rfl;refine zaF rfl rfl (by simp (disch:=first|exact za|fail) only [go_sem,seval,-List.reduceReplicate,reduceIte,Bool.false_eq_true,if_false,if_true,f1,d0,hL,g1,g2,b2,b1,hs0]<;>rfl) rfl ?_;exact⟨KF,kIs KG,(fun _=>kt (zg h0 z8)),(by (have e7:more L 7 7=true:=yA);(try simp only [e7,hL]);first | done | rfl | (simp only [e7,hL,if_true,if_false,Bool.false_eq_true];first | done | rfl | (simp (disch:=first|exact za|fail) only [go_sem,seval,-List.reduceReplicate,e7,hL,g1,g2,b2,b1,hs0]<;>rfl)))⟩
          · cases ho;have d6:=zO KG 6 rfl (kL hall 0 rfl rfl);refine zf (.p (i64 ((d.length:Int) - (b.length:Int)))) rfl rfl (by simp (disch:=first|exact za|fail) only [go_sem,seval,-List.reduceReplicate,d6,g1,g2,b2,b1,hs0]<;>rfl) rfl ?_;exact⟨ya KF,yb KG,ka m7,(by rw [zb (by decide)])⟩
          · cases ho;refine zf (.p (i64 270)) rfl rfl (by simp (disch:=first|exact za|fail) only [go_sem,seval,-List.reduceReplicate,g1,g2,b2,b1,hs0]<;>rfl) rfl ?_;exact⟨ya KF,yb KG,ka m7,(by rw [zb (by decide)])⟩
          · simp at ho
        · intro L env' H' hall hI
          obtain⟨KF,KG,_,rfl⟩:=hI
          have l7:=hall 7 (by decide)
          have f0:=yJ KF 0 rfl
          have f1:=yJ KF 1 rfl
          have f2:=yJ KF 2 rfl
          have f3:=yJ KF 3 rfl
          have g1:=zO KG 1 rfl (hall 1 (by decide))
          have g2:=zO KG 2 rfl (hall 2 (by decide))
          have g8:=zO KG 7 rfl (hall 8 (by decide))
          have g9:=zO KG 8 rfl (hall 9 (by decide))
          simp only [l7,if_true]
          clear hall
          refine .q ?_;refine .rt Tryd.func11 (by rw [Tryd.results11]) (hx:=by simp (disch:=first|exact za|fail) only [go_sem,seval,-List.reduceReplicate,f1,g8,g9,tr'];rfl) (hR := ?_);simp (disch:=first|exact za|fail) only [go_sem,seval,-List.reduceReplicate,f1,g8,g9,tr']
          exact h
       | some q =>
        obtain⟨k,p,r⟩:=q
        have hv:zgG b=((k,p,r),true):=by rw [zgG,hs]
        have hpl:=zb7 hs
        rw [hv]
        by_cases k1:k=1#8
        · subst k1
          have lk1:=lk 1#8 _ rfl
          refine .q ?_;refine .text ?_;simp (disch:=first|exact za|fail) only [go_sem,seval,-List.reduceReplicate,E,F,fm,lk1]
          refine .q ?_;refine .text ?_;simp (disch:=first|exact za|fail) only [go_sem,seval,-List.reduceReplicate,E,F,zdB,hft]
          refine .q ?_;refine .ifF (by simp (disch:=first|exact za|fail) only [go_sem,seval,-List.reduceReplicate]) ?_
          refine .skip ?_
          refine .q ?_;refine .text ?_;simp (disch:=first|exact za|fail) only [go_sem,seval,-List.reduceReplicate,E,F,f5]
          refine CallK.ex (hspec p hpl.2.1 1#8 _ rfl) fun y H' hy => ?_
          rcases hy with ⟨hpn,y',T,⟨u,v,huv⟩,rfl,rfl⟩ | ⟨s',γ,hps,rfl,p1,p2,p3,p4,p5,p6,p7⟩
          · have hX : ∀ x b,b < B.n → ((app B T).new x).f b=B.f b:=fun x b hb=>by rw [Hp.f_new_old _ _ _ (by rw [app_n'];omega),zcd hb]
            have hXt : ∀ x,((app B T).new x).trunc H.n=H:=fun x=>by rw [Hp.trunc_new _ _ _ (by rw [app_n'];omega),zbL (by omega)];exact tr
            have hXn : ∀ x,H.n+1 < ((app B T).new x).n:=fun x=>by rw [n_new',app_n'];omega
            have hl:ld s b=(s,b.length,false):=zeh hs hpn
            rw [(hres _ hl).1,(hres _ hl).2.1,(hres _ hl).2.2,if_neg (by exact Bool.false_ne_true),hdi] at h
            have hαn:=Hp.lt fα
            have hβn:=Hp.lt fβ
            simp (disch:=first|exact za|fail) only [go_sem,seval,-List.reduceReplicate,E,F,huv]
            refine .q ?_;refine .text ?_;simp (disch:=first|exact za|fail) only [go_sem,seval,-List.reduceReplicate,E,F]
            refine .q ?_;refine .ifT (by simp (disch:=first|exact za|fail) only [go_sem,seval,-List.reduceReplicate]) ?_
            refine .q ?_;refine zd6 (H.n+2) α β s.l s.gone ((hX _ _ (by omega)).trans f5) ((hX _ _ hαn).trans fα) ((hX _ _ hβn).trans fβ) αβ hc1 hc2 fun B' b1 b2 b3 b4 => ?_
            have g1:B'.f H.n=some (.cells [.p (.sl false 1 (pl b8 d)),.p (i64 s0)]):=(b3 _ (by omega) (by omega) (by omega)).trans ((hX _ _ (by omega)).trans f1)
            have g2:B'.f (H.n+1)=some (.cells [.p (.sl true 4 []),.p (.sl true 1 [])]):=(b3 _ (by omega) (by omega) (by omega)).trans ((hX _ _ (by omega)).trans f2)
            have tr':B'.trunc H.n=H:=(b4 _ (by omega) (by omega) (by omega)).trans (hXt _)
            have hbel:Bel H.n B':=yc (by rw [tr'];exact (Hp.trunc_self H).symm) hbel
            have hn':H.n+1 < B'.n:=by rw [b1];exact hXn _
            have hs0:B'.set (H.n+1) (.cells [.p (.sl true 4 []),.p (.sl true 1 [])])=B':=Hp.set_same _ _ _ g2
            (refine .q ?_)
            refine .openInv (fun L env' H'=>kF env' [(1,.ptr H.n 0),(2,.ptr (H.n+1) 0),(5,.ptr (H.n+2) 0),(7,.p (.sl false 1 (pl b8 b)))]∧kI L env' [(0,52,.p (.agg [.sl false 4 (pl zy s.l),.sl false 1 (pl bo s.gone)])),(1,53,.ptr H.n 0),(2,54,.p (.sl false 1 (pl b8 d))),(3,55,.p (i64 d.length)),(4,56,.p (.sl false 1 (pl b8 b))),(5,57,.p (i64 b.length)),(6,58,.p (i64 ((d.length:Int) - (b.length:Int)))),(8,3,.p (i64 ((d.length:Int) - (b.length:Int)))),(9,4,.p (i64 270))]∧(L 7=true → allT L [0])∧H'=(B'.set (H.n+1) (.cells (if L 7 then [.p (.sl false 4 (pl zy s.l)),.p (.sl false 1 (pl bo s.gone))] else [.p (.sl true 4 []),.p (.sl true 1 [])])))) follows (by kernel_rfl) ?_ ?_ ?_
            · exact⟨(by simp (disch:=first|exact za|fail) only [go_sem,seval,-List.reduceReplicate,kFi,kFn,and_self,E,F,g1,g2,b2,b1,hs0]),(fun _ _ h=>by cases h),(fun h=>by cases h),(by first | rfl | (simp only [Bool.false_eq_true,if_false];first | rfl | (simp (disch:=first|exact za|fail) only [go_sem,seval,-List.reduceReplicate,E,F,g1,g2,b2,b1,hs0]<;>rfl)))⟩
            · intro i o L env' H' ho hL hall hI
              obtain⟨KF,KG,m7,rfl⟩:=hI
              rcases i with _ | _ | _ | _ | _ | _ | _ | _ | _ | _ | i
              · cases ho;have n7:=nfT m7 hL;have f2:=yJ KF 2 rfl;refine zf (.p (.agg [.sl false 4 (pl zy s.l),.sl false 1 (pl bo s.gone)])) rfl rfl (by simp (disch:=first|exact za|fail) only [go_sem,seval,-List.reduceReplicate,reduceIte,Bool.false_eq_true,if_false,if_true,f2,n7,hL,g1,g2,b2,b1,hs0]<;>rfl) rfl ?_;exact⟨ya KF,yb KG,ka m7,(by rw [zb (by decide)])⟩
              · cases ho;have f0:=yJ KF 0 rfl;refine zf (.ptr H.n 0) rfl rfl (by simp (disch:=first|exact za|fail) only [go_sem,seval,-List.reduceReplicate,f0,g1,g2,b2,b1,hs0]<;>rfl) rfl ?_;exact⟨ya KF,yb KG,ka m7,(by rw [zb (by decide)])⟩
              · cases ho;have d1:=zO KG 1 rfl (kL hall 0 rfl rfl);refine zf (.p (.sl false 1 (pl b8 d))) rfl rfl (by simp (disch:=first|exact za|fail) only [go_sem,seval,-List.reduceReplicate,d1,g1,g2,b2,b1,hs0]<;>rfl) rfl ?_;exact⟨ya KF,yb KG,ka m7,(by rw [zb (by decide)])⟩
              · cases ho;have d2:=zO KG 2 rfl (kL hall 0 rfl rfl);refine zf (.p (i64 d.length)) rfl rfl (by simp (disch:=first|exact za|fail) only [go_sem,seval,-List.reduceReplicate,d2,g1,g2,b2,b1,hs0]<;>rfl) rfl ?_;exact⟨ya KF,yb KG,ka m7,(by rw [zb (by decide)])⟩
              · cases ho;have f3:=yJ KF 3 rfl;refine zf (.p (.sl false 1 (pl b8 b))) rfl rfl (by simp (disch:=first|exact za|fail) only [go_sem,seval,-List.reduceReplicate,f3,g1,g2,b2,b1,hs0]<;>rfl) rfl ?_;exact⟨ya KF,yb KG,ka m7,(by rw [zb (by decide)])⟩
              · cases ho;have d4:=zO KG 4 rfl (kL hall 0 rfl rfl);refine zf (.p (i64 b.length)) rfl rfl (by simp (disch:=first|exact za|fail) only [go_sem,seval,-List.reduceReplicate,d4,g1,g2,b2,b1,hs0]<;>rfl) rfl ?_;exact⟨ya KF,yb KG,ka m7,(by rw [zb (by decide)])⟩
              · cases ho;have d3:=zO KG 3 rfl (kL hall 0 rfl rfl);have d5:=zO KG 5 rfl (kL hall 1 rfl rfl);refine zf (.p (i64 ((d.length:Int) - (b.length:Int)))) rfl rfl (by simp (disch:=first|exact za|fail) only [go_sem,seval,-List.reduceReplicate,d3,d5,g1,g2,b2,b1,hs0]<;>rfl) rfl ?_;exact⟨ya KF,yb KG,ka m7,(by rw [zb (by decide)])⟩
              · cases ho;have h0:=kL hall 0 rfl rfl;have d0:=zO KG 0 rfl h0;have f1:=yJ KF 1 rfl;refine zaF rfl rfl (by simp (disch:=first|exact za|fail) only [go_sem,seval,-List.reduceReplicate,reduceIte,Bool.false_eq_true,if_false,if_true,f1,d0,hL,g1,g2,b2,b1,hs0]<;>rfl) rfl ?_;exact⟨KF,kIs KG,(fun _=>kt (zg h0 z8)),(by (have e7:more L 7 7=true:=yA);(try simp only [e7,hL]);first | done | rfl | (simp only [e7,hL,if_true,if_false,Bool.false_eq_true];first | done | rfl | (simp (disch:=first|exact za|fail) only [go_sem,seval,-List.reduceReplicate,e7,hL,g1,g2,b2,b1,hs0]<;>rfl)))⟩
              · cases ho;have d6:=zO KG 6 rfl (kL hall 0 rfl rfl);refine zf (.p (i64 ((d.length:Int) - (b.length:Int)))) rfl rfl (by simp (disch:=first|exact za|fail) only [go_sem,seval,-List.reduceReplicate,d6,g1,g2,b2,b1,hs0]<;>rfl) rfl ?_;exact⟨ya KF,yb KG,ka m7,(by rw [zb (by decide)])⟩
              · cases ho;refine zf (.p (i64 270)) rfl rfl (by simp (disch:=first|exact za|fail) only [go_sem,seval,-List.reduceReplicate,g1,g2,b2,b1,hs0]<;>rfl) rfl ?_;exact⟨ya KF,yb KG,ka m7,(by rw [zb (by decide)])⟩
              · simp at ho
            · intro L env' H' hall hI
              obtain⟨KF,KG,_,rfl⟩:=hI
              have l7:=hall 7 (by decide)
              have f0:=yJ KF 0 rfl
              have f1:=yJ KF 1 rfl
              have f2:=yJ KF 2 rfl
              have f3:=yJ KF 3 rfl
              have g1:=zO KG 1 rfl (hall 1 (by decide))
              have g2:=zO KG 2 rfl (hall 2 (by decide))
              have g8:=zO KG 7 rfl (hall 8 (by decide))
              have g9:=zO KG 8 rfl (hall 9 (by decide))
              simp only [l7,if_true]
              clear hall
              refine .q ?_;refine .rt Tryd.func11 (by rw [Tryd.results11]) (hx:=by simp (disch:=first|exact za|fail) only [go_sem,seval,-List.reduceReplicate,f1,g8,g9,tr'];rfl) (hR := ?_);simp (disch:=first|exact za|fail) only [go_sem,seval,-List.reduceReplicate,f1,g8,g9,tr']
              exact h
          · have hstep:ld s b=ld s' r:=zcV hs hps
            have hok:=ze7 hps ok
            have q5:H'.f (H.n+2)=some (.cells [.vr α s.l.length 4,.vr β s.gone.length 1]):=(p5 _ (by omega) (by omega) (by omega)).trans f5
            simp (disch:=first|exact za|fail) only [go_sem,seval,-List.reduceReplicate,E,F]
            refine .q ?_;refine .text ?_;simp (disch:=first|exact za|fail) only [go_sem,seval,-List.reduceReplicate,E,F]
            refine .q ?_;refine .ifF (by simp (disch:=first|exact za|fail) only [go_sem,seval,-List.reduceReplicate]) ?_
            refine .skip ?_
            refine .q ?_;refine .text ?_;simp (disch:=first|exact za|fail) only [go_sem,seval,-List.reduceReplicate,E,F,q5]
            have hmu:r.length < b.length:=by omega
            first | (refine ihE (⟨(H'.new (.cells [.vr α s'.l.length 4,.vr γ s'.gone.length 1])).set (H.n+2) (.cells [.vr α s'.l.length 4,.vr γ s'.gone.length 1]),s',α,γ,r⟩) _ _ ?_ ?_ (zbA hQ0 p1 p2 p3 p4 p5 p6 p7 hok hstep (by omega)) ?_) | (refine .z rfl ?_;refine ihE (⟨(H'.new (.cells [.vr α s'.l.length 4,.vr γ s'.gone.length 1])).set (H.n+2) (.cells [.vr α s'.l.length 4,.vr γ s'.gone.length 1]),s',α,γ,r⟩) _ _ ?_ ?_ (zbA hQ0 p1 p2 p3 p4 p5 p6 p7 hok hstep (by omega)) ?_) | (refine .z rfl ?_;refine .z rfl ?_;refine ihE (⟨(H'.new (.cells [.vr α s'.l.length 4,.vr γ s'.gone.length 1])).set (H.n+2) (.cells [.vr α s'.l.length 4,.vr γ s'.gone.length 1]),s',α,γ,r⟩) _ _ ?_ ?_ (zbA hQ0 p1 p2 p3 p4 p5 p6 p7 hok hstep (by omega)) ?_) | (refine .z rfl ?_;refine .z rfl ?_;refine .z rfl ?_;refine ihE (⟨(H'.new (.cells [.vr α s'.l.length 4,.vr γ s'.gone.length 1])).set (H.n+2) (.cells [.vr α s'.l.length 4,.vr γ s'.gone.length 1]),s',α,γ,r⟩) _ _ ?_ ?_ (zbA hQ0 p1 p2 p3 p4 p5 p6 p7 hok hstep (by omega)) ?_)
            rotate_left 1
            · simp (disch:=first|exact za|fail) only [go_sem,seval,-List.reduceReplicate,E,F]<;>(repeat' (first | rfl | refine And.intro ?_ ?_))
            · first | rfl | (simp (disch:=first|exact za|fail) only [go_sem,seval,-List.reduceReplicate,E,F]<;>(try rfl))
            · exact hmu
        · by_cases k2:k=2#8
          · subst k2
            have lk1:=lk 2#8 _ rfl
            refine .q ?_;refine .text ?_;simp (disch:=first|exact za|fail) only [go_sem,seval,-List.reduceReplicate,E,F,fm,lk1]
            refine .q ?_;refine .text ?_;simp (disch:=first|exact za|fail) only [go_sem,seval,-List.reduceReplicate,E,F,zdB,hft]
            refine .q ?_;refine .ifF (by simp (disch:=first|exact za|fail) only [go_sem,seval,-List.reduceReplicate]) ?_
            refine .skip ?_
            refine .q ?_;refine .text ?_;simp (disch:=first|exact za|fail) only [go_sem,seval,-List.reduceReplicate,E,F,f5]
            refine CallK.ex (hspec p hpl.2.1 2#8 _ rfl) fun y H' hy => ?_
            rcases hy with ⟨hpn,y',T,⟨u,v,huv⟩,rfl,rfl⟩ | ⟨s',γ,hps,rfl,p1,p2,p3,p4,p5,p6,p7⟩
            · have hX : ∀ x b,b < B.n → ((app B T).new x).f b=B.f b:=fun x b hb=>by rw [Hp.f_new_old _ _ _ (by rw [app_n'];omega),zcd hb]
              have hXt : ∀ x,((app B T).new x).trunc H.n=H:=fun x=>by rw [Hp.trunc_new _ _ _ (by rw [app_n'];omega),zbL (by omega)];exact tr
              have hXn : ∀ x,H.n+1 < ((app B T).new x).n:=fun x=>by rw [n_new',app_n'];omega
              have hl:ld s b=(s,b.length,false):=zeh hs hpn
              rw [(hres _ hl).1,(hres _ hl).2.1,(hres _ hl).2.2,if_neg (by exact Bool.false_ne_true),hdi] at h
              have hαn:=Hp.lt fα
              have hβn:=Hp.lt fβ
              simp (disch:=first|exact za|fail) only [go_sem,seval,-List.reduceReplicate,E,F,huv]
              refine .q ?_;refine .text ?_;simp (disch:=first|exact za|fail) only [go_sem,seval,-List.reduceReplicate,E,F]
              refine .q ?_;refine .ifT (by simp (disch:=first|exact za|fail) only [go_sem,seval,-List.reduceReplicate]) ?_
              refine .q ?_;refine zd6 (H.n+2) α β s.l s.gone ((hX _ _ (by omega)).trans f5) ((hX _ _ hαn).trans fα) ((hX _ _ hβn).trans fβ) αβ hc1 hc2 fun B' b1 b2 b3 b4 => ?_
              have g1:B'.f H.n=some (.cells [.p (.sl false 1 (pl b8 d)),.p (i64 s0)]):=(b3 _ (by omega) (by omega) (by omega)).trans ((hX _ _ (by omega)).trans f1)
              have g2:B'.f (H.n+1)=some (.cells [.p (.sl true 4 []),.p (.sl true 1 [])]):=(b3 _ (by omega) (by omega) (by omega)).trans ((hX _ _ (by omega)).trans f2)
              have tr':B'.trunc H.n=H:=(b4 _ (by omega) (by omega) (by omega)).trans (hXt _)
              have hbel:Bel H.n B':=yc (by rw [tr'];exact (Hp.trunc_self H).symm) hbel
              have hn':H.n+1 < B'.n:=by rw [b1];exact hXn _
              have hs0:B'.set (H.n+1) (.cells [.p (.sl true 4 []),.p (.sl true 1 [])])=B':=Hp.set_same _ _ _ g2
              (refine .q ?_)
              refine .openInv (fun L env' H'=>kF env' [(1,.ptr H.n 0),(2,.ptr (H.n+1) 0),(5,.ptr (H.n+2) 0),(7,.p (.sl false 1 (pl b8 b)))]∧kI L env' [(0,52,.p (.agg [.sl false 4 (pl zy s.l),.sl false 1 (pl bo s.gone)])),(1,53,.ptr H.n 0),(2,54,.p (.sl false 1 (pl b8 d))),(3,55,.p (i64 d.length)),(4,56,.p (.sl false 1 (pl b8 b))),(5,57,.p (i64 b.length)),(6,58,.p (i64 ((d.length:Int) - (b.length:Int)))),(8,3,.p (i64 ((d.length:Int) - (b.length:Int)))),(9,4,.p (i64 270))]∧(L 7=true → allT L [0])∧H'=(B'.set (H.n+1) (.cells (if L 7 then [.p (.sl false 4 (pl zy s.l)),.p (.sl false 1 (pl bo s.gone))] else [.p (.sl true 4 []),.p (.sl true 1 [])])))) follows (by kernel_rfl) ?_ ?_ ?_
              · exact⟨(by simp (disch:=first|exact za|fail) only [go_sem,seval,-List.reduceReplicate,kFi,kFn,and_self,E,F,g1,g2,b2,b1,hs0]),(fun _ _ h=>by cases h),(fun h=>by cases h),(by first | rfl | (simp only [Bool.false_eq_true,if_false];first | rfl | (simp (disch:=first|exact za|fail) only [go_sem,seval,-List.reduceReplicate,E,F,g1,g2,b2,b1,hs0]<;>rfl)))⟩
              · intro i o L env' H' ho hL hall hI
                obtain⟨KF,KG,m7,rfl⟩:=hI
                rcases i with _ | _ | _ | _ | _ | _ | _ | _ | _ | _ | i
                · cases ho;have n7:=nfT m7 hL;have f2:=yJ KF 2 rfl;refine zf (.p (.agg [.sl false 4 (pl zy s.l),.sl false 1 (pl bo s.gone)])) rfl rfl (by simp (disch:=first|exact za|fail) only [go_sem,seval,-List.reduceReplicate,reduceIte,Bool.false_eq_true,if_false,if_true,f2,n7,hL,g1,g2,b2,b1,hs0]<;>rfl) rfl ?_;exact⟨ya KF,yb KG,ka m7,(by rw [zb (by decide)])⟩
                · cases ho;have f0:=yJ KF 0 rfl;refine zf (.ptr H.n 0) rfl rfl (by simp (disch:=first|exact za|fail) only [go_sem,seval,-List.reduceReplicate,f0,g1,g2,b2,b1,hs0]<;>rfl) rfl ?_;exact⟨ya KF,yb KG,ka m7,(by rw [zb (by decide)])⟩
                · cases ho;have d1:=zO KG 1 rfl (kL hall 0 rfl rfl);refine zf (.p (.sl false 1 (pl b8 d))) rfl rfl (by simp (disch:=first|exact za|fail) only [go_sem,seval,-List.reduceReplicate,d1,g1,g2,b2,b1,hs0]<;>rfl) rfl ?_;exact⟨ya KF,yb KG,ka m7,(by rw [zb (by decide)])⟩
                · cases ho;have d2:=zO KG 2 rfl (kL hall 0 rfl rfl);refine zf (.p (i64 d.length)) rfl rfl (by simp (disch:=first|exact za|fail) only [go_sem,seval,-List.reduceReplicate,d2,g1,g2,b2,b1,hs0]<;>rfl) rfl ?_;exact⟨ya KF,yb KG,ka m7,(by rw [zb (by decide)])⟩
                · cases ho;have f3:=yJ KF 3 rfl;refine zf (.p (.sl false 1 (pl b8 b))) rfl rfl (by simp (disch:=first|exact za|fail) only [go_sem,seval,-List.reduceReplicate,f3,g1,g2,b2,b1,hs0]<;>rfl) rfl ?_;exact⟨ya KF,yb KG,ka m7,(by rw [zb (by decide)])⟩
                · cases ho;have d4:=zO KG 4 rfl (kL hall 0 rfl rfl);refine zf (.p (i64 b.length)) rfl rfl (by simp (disch:=first|exact za|fail) only [go_sem,seval,-List.reduceReplicate,d4,g1,g2,b2,b1,hs0]<;>rfl) rfl ?_;exact⟨ya KF,yb KG,ka m7,(by rw [zb (by decide)])⟩
                · cases ho;have d3:=zO KG 3 rfl (kL hall 0 rfl rfl);have d5:=zO KG 5 rfl (kL hall 1 rfl rfl);refine zf (.p (i64 ((d.length:Int) - (b.length:Int)))) rfl rfl (by simp (disch:=first|exact za|fail) only [go_sem,seval,-List.reduceReplicate,d3,d5,g1,g2,b2,b1,hs0]<;>rfl) rfl ?_;exact⟨ya KF,yb KG,ka m7,(by rw [zb (by decide)])⟩
                · cases ho;have h0:=kL hall 0 rfl rfl;have d0:=zO KG 0 rfl h0;have f1:=yJ KF 1 rfl;refine zaF rfl rfl (by simp (disch:=first|exact za|fail) only [go_sem,seval,-List.reduceReplicate,reduceIte,Bool.false_eq_true,if_false,if_true,f1,d0,hL,g1,g2,b2,b1,hs0]<;>rfl) rfl ?_;exact⟨KF,kIs KG,(fun _=>kt (zg h0 z8)),(by (have e7:more L 7 7=true:=yA);(try simp only [e7,hL]);first | done | rfl | (simp only [e7,hL,if_true,if_false,Bool.false_eq_true];first | done | rfl | (simp (disch:=first|exact za|fail) only [go_sem,seval,-List.reduceReplicate,e7,hL,g1,g2,b2,b1,hs0]<;>rfl)))⟩
                · cases ho;have d6:=zO KG 6 rfl (kL hall 0 rfl rfl);refine zf (.p (i64 ((d.length:Int) - (b.length:Int)))) rfl rfl (by simp (disch:=first|exact za|fail) only [go_sem,seval,-List.reduceReplicate,d6,g1,g2,b2,b1,hs0]<;>rfl) rfl ?_;exact⟨ya KF,yb KG,ka m7,(by rw [zb (by decide)])⟩
                · cases ho;refine zf (.p (i64 270)) rfl rfl (by simp (disch:=first|exact za|fail) only [go_sem,seval,-List.reduceReplicate,g1,g2,b2,b1,hs0]<;>rfl) rfl ?_;exact⟨ya KF,yb KG,ka m7,(by rw [zb (by decide)])⟩
                · simp at ho
              · intro L env' H' hall hI
                obtain⟨KF,KG,_,rfl⟩:=hI
                have l7:=hall 7 (by decide)
                have f0:=yJ KF 0 rfl
                have f1:=yJ KF 1 rfl
                have f2:=yJ KF 2 rfl
                have f3:=yJ KF 3 rfl
                have g1:=zO KG 1 rfl (hall 1 (by decide))
                have g2:=zO KG 2 rfl (hall 2 (by decide))
                have g8:=zO KG 7 rfl (hall 8 (by decide))
                have g9:=zO KG 8 rfl (hall 9 (by decide))
                simp only [l7,if_true]
                clear hall
                refine .q ?_;refine .rt Tryd.func11 (by rw [Tryd.results11]) (hx:=by simp (disch:=first|exact za|fail) only [go_sem,seval,-List.reduceReplicate,f1,g8,g9,tr'];rfl) (hR := ?_);simp (disch:=first|exact za|fail) only [go_sem,seval,-List.reduceReplicate,f1,g8,g9,tr']
                exact h
            · have hstep:ld s b=ld s' r:=zcV hs hps
              have hok:=ze7 hps ok
              have q5:H'.f (H.n+2)=some (.cells [.vr α s.l.length 4,.vr β s.gone.length 1]):=(p5 _ (by omega) (by omega) (by omega)).trans f5
              simp (disch:=first|exact za|fail) only [go_sem,seval,-List.reduceReplicate,E,F]
              refine .q ?_;refine .text ?_;simp (disch:=first|exact za|fail) only [go_sem,seval,-List.reduceReplicate,E,F]
              refine .q ?_;refine .ifF (by simp (disch:=first|exact za|fail) only [go_sem,seval,-List.reduceReplicate]) ?_
              refine .skip ?_
              refine .q ?_;refine .text ?_;simp (disch:=first|exact za|fail) only [go_sem,seval,-List.reduceReplicate,E,F,q5]
              have hmu:r.length < b.length:=by omega
              first | (refine ihE (⟨(H'.new (.cells [.vr α s'.l.length 4,.vr γ s'.gone.length 1])).set (H.n+2) (.cells [.vr α s'.l.length 4,.vr γ s'.gone.length 1]),s',α,γ,r⟩) _ _ ?_ ?_ (zbA hQ0 p1 p2 p3 p4 p5 p6 p7 hok hstep (by omega)) ?_) | (refine .z rfl ?_;refine ihE (⟨(H'.new (.cells [.vr α s'.l.length 4,.vr γ s'.gone.length 1])).set (H.n+2) (.cells [.vr α s'.l.length 4,.vr γ s'.gone.length 1]),s',α,γ,r⟩) _ _ ?_ ?_ (zbA hQ0 p1 p2 p3 p4 p5 p6 p7 hok hstep (by omega)) ?_) | (refine .z rfl ?_;refine .z rfl ?_;refine ihE (⟨(H'.new (.cells [.vr α s'.l.length 4,.vr γ s'.gone.length 1])).set (H.n+2) (.cells [.vr α s'.l.length 4,.vr γ s'.gone.length 1]),s',α,γ,r⟩) _ _ ?_ ?_ (zbA hQ0 p1 p2 p3 p4 p5 p6 p7 hok hstep (by omega)) ?_) | (refine .z rfl ?_;refine .z rfl ?_;refine .z rfl ?_;refine ihE (⟨(H'.new (.cells [.vr α s'.l.length 4,.vr γ s'.gone.length 1])).set (H.n+2) (.cells [.vr α s'.l.length 4,.vr γ s'.gone.length 1]),s',α,γ,r⟩) _ _ ?_ ?_ (zbA hQ0 p1 p2 p3 p4 p5 p6 p7 hok hstep (by omega)) ?_)
              rotate_left 1
              · simp (disch:=first|exact za|fail) only [go_sem,seval,-List.reduceReplicate,E,F]<;>(repeat' (first | rfl | refine And.intro ?_ ?_))
              · first | rfl | (simp (disch:=first|exact za|fail) only [go_sem,seval,-List.reduceReplicate,E,F]<;>(try rfl))
              · exact hmu
          · have ha:zcD k zem=none:=by
             show (if 1#8=k then _ else if 2#8=k then _ else none)=none
             rw [if_neg (Ne.symm k1),if_neg (Ne.symm k2)]
            have hpn:zY s k p=none:=by
             unfold zY
             rw [if_neg k1,if_neg fun e=>k2 e.1]
            have lk1:=lkn k ha
            have hl:ld s b=(s,b.length,false):=zeh hs hpn
            rw [(hres _ hl).1,(hres _ hl).2.1,(hres _ hl).2.2,if_neg (by exact Bool.false_ne_true),hdi] at h
            refine .q ?_;refine .text ?_;simp (disch:=first|exact za|fail) only [go_sem,seval,-List.reduceReplicate,E,F,fm,lk1]
            refine .q ?_;refine .text ?_;simp (disch:=first|exact za|fail) only [go_sem,seval,-List.reduceReplicate,E,F,zgv,hft]
            refine .q ?_;refine .ifT (by simp (disch:=first|exact za|fail) only [go_sem,seval,-List.reduceReplicate]) ?_
            refine .q ?_;refine zd6 (H.n+2) α β s.l s.gone f5 fα fβ αβ hc1 hc2 fun B' b1 b2 b3 b4 => ?_
            have g1:B'.f H.n=some (.cells [.p (.sl false 1 (pl b8 d)),.p (i64 s0)]):=(b3 _ (by omega) (by omega) (by omega)).trans f1
            have g2:B'.f (H.n+1)=some (.cells [.p (.sl true 4 []),.p (.sl true 1 [])]):=(b3 _ (by omega) (by omega) (by omega)).trans f2
            have tr':B'.trunc H.n=H:=(b4 _ (by omega) (by omega) (by omega)).trans tr
            have hbel:Bel H.n B':=yc (by rw [tr'];exact (Hp.trunc_self H).symm) hbel
            have hn':H.n+1 < B'.n:=by rw [b1];exact (by omega)
            have hs0:B'.set (H.n+1) (.cells [.p (.sl true 4 []),.p (.sl true 1 [])])=B':=Hp.set_same _ _ _ g2
            (refine .q ?_)
            refine .openInv (fun L env' H'=>kF env' [(1,.ptr H.n 0),(2,.ptr (H.n+1) 0),(5,.ptr (H.n+2) 0),(7,.p (.sl false 1 (pl b8 b)))]∧kI L env' [(0,36,.p (.agg [.sl false 4 (pl zy s.l),.sl false 1 (pl bo s.gone)])),(1,37,.ptr H.n 0),(2,38,.p (.sl false 1 (pl b8 d))),(3,39,.p (i64 d.length)),(4,40,.p (.sl false 1 (pl b8 b))),(5,41,.p (i64 b.length)),(6,42,.p (i64 ((d.length:Int) - (b.length:Int)))),(8,3,.p (i64 ((d.length:Int) - (b.length:Int)))),(9,4,.p (i64 270))]∧(L 7=true → allT L [0])∧H'=(B'.set (H.n+1) (.cells (if L 7 then [.p (.sl false 4 (pl zy s.l)),.p (.sl false 1 (pl bo s.gone))] else [.p (.sl true 4 []),.p (.sl true 1 [])])))) follows (by kernel_rfl) ?_ ?_ ?_
            · exact⟨(by simp (disch:=first|exact za|fail) only [go_sem,seval,-List.reduceReplicate,kFi,kFn,and_self,E,F,g1,g2,b2,b1,hs0]),(fun _ _ h=>by cases h),(fun h=>by cases h),(by first | rfl | (simp only [Bool.false_eq_true,if_false];first | rfl | (simp (disch:=first|exact za|fail) only [go_sem,seval,-List.reduceReplicate,E,F,g1,g2,b2,b1,hs0]<;>rfl)))⟩
            · intro i o L env' H' ho hL hall hI
              obtain⟨KF,KG,m7,rfl⟩:=hI
              rcases i with _ | _ | _ | _ | _ | _ | _ | _ | _ | _ | i
              · cases ho;have n7:=nfT m7 hL;have f2:=yJ KF 2 rfl;refine zf (.p (.agg [.sl false 4 (pl zy s.l),.sl false 1 (pl bo s.gone)])) rfl rfl (by simp (disch:=first|exact za|fail) only [go_sem,seval,-List.reduceReplicate,reduceIte,Bool.false_eq_true,if_false,if_true,f2,n7,hL,g1,g2,b2,b1,hs0]<;>rfl) rfl ?_;exact⟨ya KF,yb KG,ka m7,(by rw [zb (by decide)])⟩
              · cases ho;have f0:=yJ KF 0 rfl;refine zf (.ptr H.n 0) rfl rfl (by simp (disch:=first|exact za|fail) only [go_sem,seval,-List.reduceReplicate,f0,g1,g2,b2,b1,hs0]<;>rfl) rfl ?_;exact⟨ya KF,yb KG,ka m7,(by rw [zb (by decide)])⟩
              · cases ho;have d1:=zO KG 1 rfl (kL hall 0 rfl rfl);refine zf (.p (.sl false 1 (pl b8 d))) rfl rfl (by simp (disch:=first|exact za|fail) only [go_sem,seval,-List.reduceReplicate,d1,g1,g2,b2,b1,hs0]<;>rfl) rfl ?_;exact⟨ya KF,yb KG,ka m7,(by rw [zb (by decide)])⟩
              · cases ho;have d2:=zO KG 2 rfl (kL hall 0 rfl rfl);refine zf (.p (i64 d.length)) rfl rfl (by simp (disch:=first|exact za|fail) only [go_sem,seval,-List.reduceReplicate,d2,g1,g2,b2,b1,hs0]<;>rfl) rfl ?_;exact⟨ya KF,yb KG,ka m7,(by rw [zb (by decide)])⟩
              · cases ho;have f3:=yJ KF 3 rfl;refine zf (.p (.sl false 1 (pl b8 b))) rfl rfl (by simp (disch:=first|exact za|fail) only [go_sem,seval,-List.reduceReplicate,f3,g1,g2,b2,b1,hs0]<;>rfl) rfl ?_;exact⟨ya KF,yb KG,ka m7,(by rw [zb (by decide)])⟩
              · cases ho;have d4:=zO KG 4 rfl (kL hall 0 rfl rfl);refine zf (.p (i64 b.length)) rfl rfl (by simp (disch:=first|exact za|fail) only [go_sem,seval,-List.reduceReplicate,d4,g1,g2,b2,b1,hs0]<;>rfl) rfl ?_;exact⟨ya KF,yb KG,ka m7,(by rw [zb (by decide)])⟩
              · cases ho;have d3:=zO KG 3 rfl (kL hall 0 rfl rfl);have d5:=zO KG 5 rfl (kL hall 1 rfl rfl);refine zf (.p (i64 ((d.length:Int) - (b.length:Int)))) rfl rfl (by simp (disch:=first|exact za|fail) only [go_sem,seval,-List.reduceReplicate,d3,d5,g1,g2,b2,b1,hs0]<;>rfl) rfl ?_;exact⟨ya KF,yb KG,ka m7,(by rw [zb (by decide)])⟩
              · cases ho;have h0:=kL hall 0 rfl rfl;have d0:=zO KG 0 rfl h0;have f1:=yJ KF 1 rfl;refine zaF rfl rfl (by simp (disch:=first|exact za|fail) only [go_sem,seval,-List.reduceReplicate,reduceIte,Bool.false_eq_true,if_false,if_true,f1,d0,hL,g1,g2,b2,b1,hs0]<;>rfl) rfl ?_;exact⟨KF,kIs KG,(fun _=>kt (zg h0 z8)),(by (have e7:more L 7 7=true:=yA);(try simp only [e7,hL]);first | done | rfl | (simp only [e7,hL,if_true,if_false,Bool.false_eq_true];first | done | rfl | (simp (disch:=first|exact za|fail) only [go_sem,seval,-List.reduceReplicate,e7,hL,g1,g2,b2,b1,hs0]<;>rfl)))⟩
              · cases ho;have d6:=zO KG 6 rfl (kL hall 0 rfl rfl);refine zf (.p (i64 ((d.length:Int) - (b.length:Int)))) rfl rfl (by simp (disch:=first|exact za|fail) only [go_sem,seval,-List.reduceReplicate,d6,g1,g2,b2,b1,hs0]<;>rfl) rfl ?_;exact⟨ya KF,yb KG,ka m7,(by rw [zb (by decide)])⟩
              · cases ho;refine zf (.p (i64 270)) rfl rfl (by simp (disch:=first|exact za|fail) only [go_sem,seval,-List.reduceReplicate,g1,g2,b2,b1,hs0]<;>rfl) rfl ?_;exact⟨ya KF,yb KG,ka m7,(by rw [zb (by decide)])⟩
              · simp at ho
            · intro L env' H' hall hI
              obtain⟨KF,KG,_,rfl⟩:=hI
              have l7:=hall 7 (by decide)
              have f0:=yJ KF 0 rfl
              have f1:=yJ KF 1 rfl
              have f2:=yJ KF 2 rfl
              have f3:=yJ KF 3 rfl
              have g8:=zO KG 7 rfl (hall 8 (by decide))
              have g9:=zO KG 8 rfl (hall 9 (by decide))
              simp only [l7,if_true]
              clear hall
              refine .q ?_;refine .rt Tryd.func11 (by rw [Tryd.results11]) (hx:=by simp (disch:=first|exact za|fail) only [go_sem,seval,-List.reduceReplicate,f1,g8,g9,tr'];rfl) (hR := ?_);simp (disch:=first|exact za|fail) only [go_sem,seval,-List.reduceReplicate,f1,g8,g9,tr']
              exact h
end walks
end Go.Proofs.YtdpfkanfahchjaaDoor

/-
  The log of readings: Append and Retract,by the program.
-/
namespace Go.Proofs.YtdpfkanfahchjaaDoor
open Go Go.AL

def zgJ (l:List Rdg):Int:=match l.findIdx? (fun r => !vB r) with | some i=>(i:Nat) | none => -1
theorem zn4 {l:List Rdg}:0≤zgJ l ↔ ¬ ∀ r∈l,vR r:=by
 unfold zgJ
 cases h:l.findIdx? (fun r => !vB r) with
 | none =>
  rw [List.findIdx?_eq_none_iff] at h
  refine⟨fun e=>absurd e (by decide),fun e=>absurd (fun r hr=>zcI.1 ?_) e⟩
  have:=h r hr
  simpa using this
 | some i =>
  refine⟨fun _ e => ?_,fun _=>by show (0:Int)≤(i:Nat);omega⟩
  rw [List.findIdx?_eq_some_iff_getElem] at h
  obtain⟨hi,hp,_⟩:=h
  have:=zcI.2 (e _ (List.getElem_mem hi))
  rw [this] at hp
  cases hp
theorem zuP {l:List Rdg} {i:Nat} (hi:i < l.length) (hb:vB (nth l i)=false) (hlt : ∀ j,j < i → vB (nth l j)=true):zgJ l=i:=by
 have:l.findIdx? (fun r => !vB r)=some i:=by
  rw [List.findIdx?_eq_some_iff_getElem]
  refine⟨hi,?_,fun j hj => ?_⟩
  · rw [←show nth l i=l[i] by simp [nth,hi],hb];rfl
  · rw [←show nth l j=l[j]'(by omega) by simp [nth,show j < l.length by omega],hlt j hj];simp
 unfold zgJ
 rw [this]
theorem zuQ {l:List Rdg} (h : ∀ j,j < l.length → vB (nth l j)=true):zgJ l = -1:=by
 have:l.findIdx? (fun r => !vB r)=none:=by
  rw [List.findIdx?_eq_none_iff]
  intro x hx
  obtain⟨j,hj,rfl⟩:=List.mem_iff_getElem.1 hx
  have:=h j hj
  rw [show nth l j=l[j] by simp [nth,hj]] at this
  rw [this];rfl
 unfold zgJ
 rw [this]
section walks
variable {G:Globs}
theorem zpY (r:Rdg) (H:Hp) (R:AV → Hp → Prop) (h:R (.p (bo (!vB r))) H):ACall Tryd.prog G 41 [.p (zy r)] H R:=by
 have hac:zi (.p (zy r))=some [.p (i64 r.who),.p (i64 r.whn),.p (i64 r.knd),.p (i64 r.val)]:=rfl
 refine ACall.of_run (raw:=[]) Tryd.func41 rfl Tryd.ntmps41 (by simp) fun hbel => ?_
 refine .q ?_;refine .text ?_;simp (disch:=first|exact za|fail) only [go_sem,seval,-List.reduceReplicate,hac]
 refine .q ?_;refine .text ?_;simp (disch:=first|exact za|fail) only [go_sem,seval,-List.reduceReplicate]
 refine CallK.of (fun R h=>zmR r _ R h) ?_;simp (disch:=first|exact za|fail) only [go_sem,seval,-List.reduceReplicate]
 refine .q ?_;refine .rt Tryd.func41 (by rw [Tryd.results41]) (hR := ?_);simp (disch:=first|exact za|fail) only [go_sem,seval,-List.reduceReplicate]
 exact h
theorem zge (l:List Rdg) (hl:l.length≤100000) (H:Hp) (R:AV → Hp → Prop) (h:R (.p (i64 (zgJ l))) H):ACall Tryd.prog G 69 [.p (.sl false 4 (pl zy l)),.clo 41 [] []] H R:=by
 refine ACall.of_run (raw:=[]) Tryd.func69 rfl Tryd.ntmps69 (by simp) fun hbel => ?_
 refine .q ?_;refine .text ?_;simp (disch:=first|exact za|fail) only [go_sem,seval,-List.reduceReplicate]
 refine .q ?_;refine .text ?_;simp (disch:=first|exact za|fail) only [go_sem,seval,-List.reduceReplicate]
 refine .q ?_;refine .loopE [0,1,7] (fun i=>[(8,.p (i64 i))]) (fun i=>[]) (fun i => ∀ j,j < i → vB (nth l j)=true) (0) (l.length) (by omega) ?_ (by first | rfl | (simp (disch:=first|exact za|fail) only [go_sem,seval,-List.reduceReplicate]<;>rfl)) ?_ ?_ ?_
 · simp (disch:=first|exact za|fail) only [go_sem,seval,-List.reduceReplicate]<;>(repeat' (first | rfl | refine And.intro ?_ ?_))
 rotate_left 1
 intro env E hQ;simp (disch:=first|exact za|fail) only [go_sem,seval,-List.reduceReplicate] at E
 rotate_left 1
 intro i env hi0 hi E hQ ihE;simp (disch:=first|exact za|fail) only [go_sem,seval,-List.reduceReplicate] at E
 rotate_left 1
 · exact fun j hj=>absurd hj (by omega)
 · rw [zuQ hQ] at h
   refine .q ?_;refine .text ?_;simp (disch:=first|exact za|fail) only [go_sem,seval,-List.reduceReplicate,E]
   refine .q ?_;refine .ifF (by simp (disch:=first|exact za|fail) only [go_sem,seval,-List.reduceReplicate]) ?_
   refine .q ?_;refine .text ?_;simp (disch:=first|exact za|fail) only [go_sem,seval,-List.reduceReplicate,E]
   refine .q ?_;refine .rt Tryd.func69 (by rw [Tryd.results69]) (hx:=by simp (disch:=first|exact za|fail) only [go_sem,seval,-List.reduceReplicate,E];rfl) (hR := ?_);simp (disch:=first|exact za|fail) only [go_sem,seval,-List.reduceReplicate,E]
   exact h
 · refine .q ?_;refine .text ?_;simp (disch:=first|exact za|fail) only [go_sem,seval,-List.reduceReplicate,E]
   refine .q ?_;refine .ifT (by simp (disch:=first|exact za|fail) only [go_sem,seval,-List.reduceReplicate]) ?_
   refine .q ?_;refine .text ?_;simp (disch:=first|exact za|fail) only [go_sem,seval,-List.reduceReplicate,E]
   refine .q ?_;refine .text ?_;simp (disch:=first|exact za|fail) only [go_sem,seval,-List.reduceReplicate,E]
   refine CallK.of (fun R h=>zpY (nth l i) _ R h) ?_;simp (disch:=first|exact za|fail) only [go_sem,seval,-List.reduceReplicate,E]
   cases hv:vB (nth l i) with
   | true =>
    refine .q ?_;refine .ifF (by simp (disch:=first|exact za|fail) only [go_sem,seval,-List.reduceReplicate,hv]) ?_
    refine .skip ?_
    refine .q ?_;refine .text ?_;simp (disch:=first|exact za|fail) only [go_sem,seval,-List.reduceReplicate,E]
    first | (refine ihE _ _ ?_ (zm hQ hv) ?_) | (refine .z rfl ?_;refine ihE _ _ ?_ (zm hQ hv) ?_) | (refine .z rfl ?_;refine .z rfl ?_;refine ihE _ _ ?_ (zm hQ hv) ?_) | (refine .z rfl ?_;refine .z rfl ?_;refine .z rfl ?_;refine ihE _ _ ?_ (zm hQ hv) ?_)
    · simp (disch:=first|exact za|fail) only [go_sem,seval,-List.reduceReplicate,E]<;>(repeat' (first | rfl | refine And.intro ?_ ?_))
    · first | rfl | (simp (disch:=first|exact za|fail) only [go_sem,seval,-List.reduceReplicate,E]<;>(try rfl))
   | false =>
    rw [zuP hi hv hQ] at h
    refine .q ?_;refine .ifT (by simp (disch:=first|exact za|fail) only [go_sem,seval,-List.reduceReplicate,hv]) ?_
    refine .q ?_;refine .text ?_;simp (disch:=first|exact za|fail) only [go_sem,seval,-List.reduceReplicate,E]
    refine .q ?_;refine .rt Tryd.func69 (by rw [Tryd.results69]) (hx:=by simp (disch:=first|exact za|fail) only [go_sem,seval,-List.reduceReplicate,E];rfl) (hR := ?_);simp (disch:=first|exact za|fail) only [go_sem,seval,-List.reduceReplicate,E]
    exact h
theorem zd7 (l:List Rdg) (hl:l.length≤100000) (H:Hp) (R:AV → Hp → Prop) (h:R (.p (bo (decide (0≤zgJ l)))) H):ACall Tryd.prog G 43 [.p (.sl false 4 (pl zy l)),.clo 41 [] []] H R:=by
 refine ACall.of_run (raw:=[]) Tryd.func43 rfl Tryd.ntmps43 (by simp) fun hbel => ?_
 refine .q ?_;refine .text ?_;simp (disch:=first|exact za|fail) only [go_sem,seval,-List.reduceReplicate]
 refine .q ?_;refine .text ?_;simp (disch:=first|exact za|fail) only [go_sem,seval,-List.reduceReplicate]
 refine CallK.of (fun R h=>zge l hl _ R h) ?_;simp (disch:=first|exact za|fail) only [go_sem,seval,-List.reduceReplicate]
 refine .q ?_;refine .rt Tryd.func43 (by rw [Tryd.results43]) (hR := ?_);simp (disch:=first|exact za|fail) only [go_sem,seval,-List.reduceReplicate]
 exact h
set_option maxHeartbeats 4000000 in
set_option maxRecDepth 20000 in
theorem zaw (hG0:G 0=some (8,[.agg (pl zw inits)])) (hG1:G 1=some (64,[.agg (pl zw ks)])) (d:By) (s0:Int) (l:List Rdg) (hd:d.length≤1000000000) (hl:l.length≤100000) (H:Hp) (R:AV → Hp → Prop)
 (h:R (.tup [.p (sto (zbl (d,s0) l).1.1 (zbl (d,s0) l).1.2),.p (i64 (zbl (d,s0) l).2)]) H):ACall Tryd.prog G 13 [.p (sto d s0),.p (.sl false 4 (pl zy l))] H R:=by
 unfold zbl at h
 have hok:=zhk (d:=d)
 have hlN:=zhl (d:=d)
 refine ACall.of_run (raw:=[]) Tryd.func13 rfl Tryd.ntmps13 (by simp) fun hbel => ?_
 refine .q ?_;refine .text ?_;simp (disch:=first|exact za|fail) only [go_sem,seval,-List.reduceReplicate]
 refine .q ?_;refine .text ?_;simp (disch:=first|exact za|fail) only [go_sem,seval,-List.reduceReplicate]
 by_cases c1:l.length < 1
 · have d1:decide ((l.length:Int) < 1)=true:=decide_eq_true (by omega)
   rw [if_pos (.inl c1)] at h
   refine .q ?_;refine .text ?_;simp (disch:=first|exact za|fail) only [go_sem,seval,-List.reduceReplicate,d1]
   refine .q ?_;refine .ifT (by simp (disch:=first|exact za|fail) only [go_sem,seval,-List.reduceReplicate]) ?_
   refine .q ?_;refine .text ?_;simp (disch:=first|exact za|fail) only [go_sem,seval,-List.reduceReplicate]
   refine .q ?_;refine .rt Tryd.func13 (by rw [Tryd.results13]) (hR := ?_);simp (disch:=first|exact za|fail) only [go_sem,seval,-List.reduceReplicate]
   exact h
 have d1:decide ((l.length:Int) < 1)=false:=decide_eq_false (by omega)
 by_cases c2:4096 < l.length
 · have d2:decide ((4096:Int) < (l.length:Int))=true:=decide_eq_true (by omega)
   rw [if_pos (.inr (.inl c2))] at h
   refine .q ?_;refine .text ?_;simp (disch:=first|exact za|fail) only [go_sem,seval,-List.reduceReplicate,d1,d2]
   refine .q ?_;refine .ifT (by simp (disch:=first|exact za|fail) only [go_sem,seval,-List.reduceReplicate]) ?_
   refine .q ?_;refine .text ?_;simp (disch:=first|exact za|fail) only [go_sem,seval,-List.reduceReplicate]
   refine .q ?_;refine .rt Tryd.func13 (by rw [Tryd.results13]) (hR := ?_);simp (disch:=first|exact za|fail) only [go_sem,seval,-List.reduceReplicate]
   exact h
 have d2:decide ((4096:Int) < (l.length:Int))=false:=decide_eq_false (by omega)
 refine .q ?_;refine .text ?_;simp (disch:=first|exact za|fail) only [go_sem,seval,-List.reduceReplicate,d1,d2]
 refine CallK.of (fun R h=>zd7 l hl _ R h) ?_;simp (disch:=first|exact za|fail) only [go_sem,seval,-List.reduceReplicate,d1,d2]
 by_cases c3 : ∀ r∈l,vR r
 rotate_left
 · have d3:decide (0≤zgJ l)=true:=decide_eq_true (zn4.2 c3)
   rw [if_pos (.inr (.inr c3))] at h
   refine .q ?_;refine .ifT (by simp (disch:=first|exact za|fail) only [go_sem,seval,-List.reduceReplicate,d3]) ?_
   refine .q ?_;refine .text ?_;simp (disch:=first|exact za|fail) only [go_sem,seval,-List.reduceReplicate]
   refine .q ?_;refine .rt Tryd.func13 (by rw [Tryd.results13]) (hR := ?_);simp (disch:=first|exact za|fail) only [go_sem,seval,-List.reduceReplicate]
   exact h
 have d3:decide (0≤zgJ l)=false:=decide_eq_false fun e=>zn4.1 e c3
 have hne : ¬ (l.length < 1 ∨ 4096 < l.length ∨ ¬ ∀ r∈l,vR r):=fun e=>by
  rcases e with e | e | e
  · exact c1 e
  · exact c2 e
  · exact e c3
 rw [if_neg hne] at h
 refine .q ?_;refine .ifF (by simp (disch:=first|exact za|fail) only [go_sem,seval,-List.reduceReplicate,d3]) ?_
 refine .skip ?_
 refine .q ?_;refine .text ?_;simp (disch:=first|exact za|fail) only [go_sem,seval,-List.reduceReplicate]
 refine CallK.of (fun R h=>zas hG0 hG1 d s0 (by omega) _ R h) ?_;simp (disch:=first|exact za|fail) only [go_sem,seval,-List.reduceReplicate]
 obtain⟨S,hS⟩ : ∃ S,S=lS d:=⟨_,rfl⟩
 obtain⟨N,hN⟩ : ∃ N,N=lN d:=⟨_,rfl⟩
 dsimp only at h
 rw [←hS] at h hok ⊢
 rw [←hN] at h hlN ⊢
 have hSl:=hok.2
 by_cases c4:65536 < S.l.length+l.length
 · have d4:decide ((65536:Int) < (S.l.length:Int)+(l.length:Int))=true:=decide_eq_true (by omega)
   rw [if_pos c4] at h
   refine .q ?_;refine .text ?_;simp (disch:=first|exact za|fail) only [go_sem,seval,-List.reduceReplicate,d4]
   refine .q ?_;refine .ifT (by simp (disch:=first|exact za|fail) only [go_sem,seval,-List.reduceReplicate]) ?_
   refine .q ?_;refine .text ?_;simp (disch:=first|exact za|fail) only [go_sem,seval,-List.reduceReplicate]
   refine .q ?_;refine .rt Tryd.func13 (by rw [Tryd.results13]) (hR := ?_);simp (disch:=first|exact za|fail) only [go_sem,seval,-List.reduceReplicate]
   exact h
 have d4:decide ((65536:Int) < (S.l.length:Int)+(l.length:Int))=false:=decide_eq_false (by omega)
 rw [if_neg c4] at h
 refine .q ?_;refine .text ?_;simp (disch:=first|exact za|fail) only [go_sem,seval,-List.reduceReplicate,d4]
 refine .q ?_;refine .ifF (by simp (disch:=first|exact za|fail) only [go_sem,seval,-List.reduceReplicate]) ?_
 refine .skip ?_
 have hpc:=ziv (l:=l)
 obtain⟨p,hp⟩ : ∃ p,p=pcl l:=⟨_,rfl⟩
 rw [←hp] at h hpc
 have hrl:(rcd 1#8 p).length=13+p.length:=zaf
 obtain⟨q,hq⟩ : ∃ q,q=rcd 1#8 p:=⟨_,rfl⟩
 rw [←hq] at h hrl
 refine .q ?_;refine .open [7] follows (by kernel_rfl) ?_;simp (disch:=first|exact za|fail) only [go_sem,seval,-List.reduceReplicate]
 refine CallD.still (fun R h=>zhe l (by omega) _ R h) ?_;simp (disch:=first|exact za|fail) only [go_sem,seval,-List.reduceReplicate]
 have hsg:([i64 l.length,.sl false 1 (pl (sle 1 b8) (pkc l 4))]:List PV)=[i64 l.length,.sl false 1 (pl (sle 1 b8) (pkc l 4))]:=rfl
 have hpk:(pkc l 4).length=4:=zaZ
 have hpl : ∀ c∈pkc l 4,c.length≤1000000:=fun c hc=>by have:=ziu c hc;omega
 have hpay : ∀ (B:Hp) (R:AV → Hp → Prop),R (.p (.sl false 1 (pl b8 p))) B → ACall Tryd.prog G 46 [.p (.agg [i64 l.length,.sl false 1 (pl (sle 1 b8) (pkc l 4))])] B R:=fun B R h=>ziq l.length (pkc l 4) (by omega) hpl B R (by rw [hp] at h;exact h)
 have hrec : ∀ (B:Hp) (R:AV → Hp → Prop),R (.p (.sl false 1 (pl b8 q))) B → ACall Tryd.prog G 45 [.p (b8 1#8),.p (.sl false 1 (pl b8 p))] B R:=fun B R h=>zeF hG0 hG1 1#8 p (by omega) B R (by rw [hq] at h;exact h)
 refine CallD.still (fun R h=>hpay _ R h) ?_;simp (disch:=first|exact za|fail) only [go_sem,seval,-List.reduceReplicate]
 refine CallD.still (fun R h=>hrec _ R h) ?_;simp (disch:=first|exact za|fail) only [go_sem,seval,-List.reduceReplicate]
 refine CallD.still (fun R h=>zd4 d q s0 N hlN (by omega) (by omega) _ R h) ?_;simp (disch:=first|exact za|fail) only [go_sem,seval,-List.reduceReplicate]
 refine .q ?_;refine .rt Tryd.func13 (by rw [Tryd.results13]) (hR := ?_);simp (disch:=first|exact za|fail) only [go_sem,seval,-List.reduceReplicate]
 exact h
set_option maxHeartbeats 2000000 in
theorem ziy (x n:Nat) (hn:n≤8) (H:Hp) (R:AV → Hp → Prop) (h:R (.p (.sl false 1 (pl b8 (zW n x)))) H) :
 ACall Tryd.prog G 53 [.p (.s (.slice none 0 0)),.p (i64 x),.p (i64 n)] H R:=by
 refine ACall.of_run (raw:=[]) Tryd.func53 rfl Tryd.ntmps53 (by simp) fun hbel => ?_
 have hx0:x / 256 ^ 0=x:=by simp
 have hn0:(n:Int) - ((0:Nat):Int)=n:=by omega
 refine .nilS 0 1 rfl ?_
 refine .q ?_;refine .text ?_;simp (disch:=first|exact za|fail) only [go_sem,seval,-List.reduceReplicate]
 refine .q ?_;refine .own 0 (by simp (disch:=first|exact za|fail) only [go_sem,seval,-List.reduceReplicate];rfl) ?_
 refine .q ?_;refine .loopH [] (fun i=>[(0,.sl H.n i 1 (pl b8 (zW i x))),(1,.p (i64 (x / 256 ^ i:Nat))),(2,.p (i64 ((n:Int) - (i:Int))))]) (fun i=>H.new (.tail i)) (fun i=>True) (0) (n) (by omega) ?_ (by first | rfl | (simp (disch:=first|exact za|fail) only [go_sem,seval,-List.reduceReplicate,zW,hx0,hn0]<;>rfl)) ?_ ?_ ?_
 · simp (disch:=first|exact za|fail) only [go_sem,seval,-List.reduceReplicate,zW,hx0,hn0]<;>(repeat' (first | rfl | refine And.intro ?_ ?_))
 · exact trivial
 intro env E hQ;simp (disch:=first|exact za|fail) only [go_sem,seval,-List.reduceReplicate,zW,hx0,hn0] at E
 rotate_left 1
 intro i env hi0 hi E hQ ihE;simp (disch:=first|exact za|fail) only [go_sem,seval,-List.reduceReplicate,zW,hx0,hn0] at E
 rotate_left 1
 · have hd:decide ((0:Int) < (n:Int) - (n:Int))=false:=decide_eq_false (by omega)
   refine .q ?_;refine .text ?_;simp (disch:=first|exact za|fail) only [go_sem,seval,-List.reduceReplicate,E,hd]
   refine .q ?_;refine .ifF (by simp (disch:=first|exact za|fail) only [go_sem,seval,-List.reduceReplicate,Int.sub_self]) ?_
   refine .q ?_;refine .text ?_;simp (disch:=first|exact za|fail) only [go_sem,seval,-List.reduceReplicate,E]
   refine .q ?_;refine .rt Tryd.func53 (by rw [Tryd.results53]) (hx:=by simp (disch:=first|exact za|fail) only [go_sem,seval,-List.reduceReplicate,E];rfl) (hR := ?_);simp (disch:=first|exact za|fail) only [go_sem,seval,-List.reduceReplicate,E]
   exact h
 · have hl:(zW i x).length=i:=zv
   have hs:zW i x++[BitVec.ofNat 8 (x / 256 ^ i)]=zW (i+1) x:=leN_snoc.symm
   have hd:decide ((0:Int) < (n:Int) - (i:Int))=true:=decide_eq_true (by omega)
   have hx:((x / 256 ^ i:Nat):Int) / 256=((x / 256 ^ (i+1):Nat):Int):=by
    rw [show (256:Int)=((256:Nat):Int) from rfl,←Int.natCast_ediv,Nat.div_div_eq_div_mul,Nat.pow_succ]
   have hn1:(n:Int) - (i:Int) - 1=(n:Int) - ((i:Int)+1):=by omega
   refine .q ?_;refine .text ?_;simp (disch:=first|exact za|fail) only [go_sem,seval,-List.reduceReplicate,E,hd]
   refine .q ?_;refine .ifT (by simp (disch:=first|exact za|fail) only [go_sem,seval,-List.reduceReplicate,hd]) ?_
   refine .q ?_;refine .text ?_;simp (disch:=first|exact za|fail) only [go_sem,seval,-List.reduceReplicate,E,hl,BitVec.ofInt_natCast,zaq,zar]
   refine .q ?_;refine .text ?_;simp (disch:=first|exact za|fail) only [go_sem,seval,-List.reduceReplicate,E,zih,hx]
   refine .q ?_;refine .text ?_;simp (disch:=first|exact za|fail) only [go_sem,seval,-List.reduceReplicate,E,hn1]
   first | (refine ihE _ _ ?_ trivial ?_) | (refine .z rfl ?_;refine ihE _ _ ?_ trivial ?_) | (refine .z rfl ?_;refine .z rfl ?_;refine ihE _ _ ?_ trivial ?_) | (refine .z rfl ?_;refine .z rfl ?_;refine .z rfl ?_;refine ihE _ _ ?_ trivial ?_)
   · simp (disch:=first|exact za|fail) only [go_sem,seval,-List.reduceReplicate,E,hs,zih,hx,hn1,List.append_assoc,Nat.add_assoc]<;>(repeat' (first | rfl | refine And.intro ?_ ?_))
   · first | rfl | (simp (disch:=first|exact za|fail) only [go_sem,seval,-List.reduceReplicate,E,hs,zih,hx,hn1,List.append_assoc,Nat.add_assoc]<;>(try rfl))
theorem zkN (g:List Bool) (hg:0 < g.length) (hg2:g.length≤100000) (H:Hp) (R:AV → Hp → Prop) (h:R (.vr H.n g.length 1) (H.new (.vec (cl bo g)))) :
 ACall Tryd.prog G 72 [.p (.sl false 1 (pl bo g))] H R:=by
 refine ACall.of_run (raw:=[]) Tryd.func72 rfl Tryd.ntmps72 (by simp) fun hbel => ?_
 refine .q ?_;refine .text ?_;simp (disch:=first|exact za|fail) only [go_sem,seval,-List.reduceReplicate]
 refine .q ?_;refine .region ?_
 refine .one rfl (by simp (disch:=first|exact za|fail) only [go_sem,seval,-List.reduceReplicate]<;>rfl) rfl ?_
 refine .isNil (e:=4) zhi (xs:=pl bo g) (fl:=false) (sz:=1) (by simp (disch:=first|exact za|fail) only [go_sem,seval,-List.reduceReplicate]) rfl fun b hb => .nil ?_
 cases b with
 | true =>
  have:=hb rfl
  rw [show g=[] from List.map_eq_nil_iff.1 this] at hg
  exact absurd hg (by decide)
 | false =>
  refine .q ?_;refine .ifF (by simp (disch:=first|exact za|fail) only [go_sem,seval,-List.reduceReplicate]) ?_
  refine .skip ?_
  refine .q ?_;refine .region ?_
  refine .buildVec (sz:=1) (cs:=[]) (by simp (disch:=first|exact za|fail) only [go_sem,seval,-List.reduceReplicate,zS,yw]<;>rfl) (by rfl) ?_
  refine .run ?_
  simp (disch:=first|exact za|fail) only [go_sem,seval,-List.reduceReplicate,flat_bo']
  refine .q ?_;refine .retKeep Tryd.func72 (by rw [Tryd.results72]) (by simp (disch:=first|exact za|fail) only [go_sem,seval,-List.reduceReplicate];rfl) ?_;(try simp (disch:=first|exact za|fail) only [go_sem,seval,-List.reduceReplicate])
  exact h
theorem zgK (s:Strm) (i:Int) (hs:s.l.length≤65536) (hg:s.gone.length=s.l.length) (H:Hp) (R:AV → Hp → Prop) (h:R (.tup [.p (stm (yP s i).1),.p (i64 (yP s i).2)]) H) :
 ACall Tryd.prog G 52 [.p (stm s),.p (i64 i)] H R:=by
 unfold yP at h
 refine ACall.of_run (raw:=[]) Tryd.func52 rfl Tryd.ntmps52 (by simp) fun hbel => ?_
 refine .q ?_;refine .text ?_;simp (disch:=first|exact za|fail) only [go_sem,seval,-List.reduceReplicate]
 by_cases c1:i < 0
 · have d1:decide (i < 0)=true:=decide_eq_true c1
   rw [if_pos (.inl c1)] at h
   refine .q ?_;refine .text ?_;simp (disch:=first|exact za|fail) only [go_sem,seval,-List.reduceReplicate,d1]
   refine .q ?_;refine .ifT (by simp (disch:=first|exact za|fail) only [go_sem,seval,-List.reduceReplicate]) ?_
   refine .q ?_;refine .text ?_;simp (disch:=first|exact za|fail) only [go_sem,seval,-List.reduceReplicate]
   refine .q ?_;refine .rt Tryd.func52 (by rw [Tryd.results52]) (hR := ?_);simp (disch:=first|exact za|fail) only [go_sem,seval,-List.reduceReplicate]
   exact h
 · have d1:decide (i < 0)=false:=decide_eq_false c1
   by_cases c2:(s.l.length:Int)≤i
   · have d2:decide ((s.l.length:Int)≤i)=true:=decide_eq_true c2
     rw [if_pos (.inr c2)] at h
     refine .q ?_;refine .text ?_;simp (disch:=first|exact za|fail) only [go_sem,seval,-List.reduceReplicate,d1,d2]
     refine .q ?_;refine .ifT (by simp (disch:=first|exact za|fail) only [go_sem,seval,-List.reduceReplicate]) ?_
     refine .q ?_;refine .text ?_;simp (disch:=first|exact za|fail) only [go_sem,seval,-List.reduceReplicate]
     refine .q ?_;refine .rt Tryd.func52 (by rw [Tryd.results52]) (hR := ?_);simp (disch:=first|exact za|fail) only [go_sem,seval,-List.reduceReplicate]
     exact h
   · have d2:decide ((s.l.length:Int)≤i)=false:=decide_eq_false c2
     rw [if_neg (by omega)] at h
     obtain⟨k,rfl⟩ : ∃ k:Nat,i=k:=⟨i.toNat,by omega⟩
     rw [Int.toNat_natCast] at h
     have hk:k < s.gone.length:=by omega
     refine .q ?_;refine .text ?_;simp (disch:=first|exact za|fail) only [go_sem,seval,-List.reduceReplicate,d1,d2]
     refine .q ?_;refine .ifF (by simp (disch:=first|exact za|fail) only [go_sem,seval,-List.reduceReplicate]) ?_
     refine .q ?_;refine .text ?_;simp (disch:=first|exact za|fail) only [go_sem,seval,-List.reduceReplicate]
     cases hn:nth s.gone k with
     | true =>
      rw [hn,if_pos rfl] at h
      refine .q ?_;refine .ifT (by simp (disch:=first|exact za|fail) only [go_sem,seval,-List.reduceReplicate,hn]) ?_
      refine .q ?_;refine .text ?_;simp (disch:=first|exact za|fail) only [go_sem,seval,-List.reduceReplicate]
      refine .q ?_;refine .rt Tryd.func52 (by rw [Tryd.results52]) (hR := ?_);simp (disch:=first|exact za|fail) only [go_sem,seval,-List.reduceReplicate]
      exact h
     | false =>
      rw [hn,if_neg (by decide)] at h
      refine .q ?_;refine .ifF (by simp (disch:=first|exact za|fail) only [go_sem,seval,-List.reduceReplicate,hn]) ?_
      refine .skip ?_
      refine .q ?_;refine .text ?_;simp (disch:=first|exact za|fail) only [go_sem,seval,-List.reduceReplicate]
      refine CallK.of (fun R h=>zkN s.gone (by omega) (by omega) _ R h) ?_;simp (disch:=first|exact za|fail) only [go_sem,seval,-List.reduceReplicate]
      refine .q ?_;refine .text ?_;simp (disch:=first|exact za|fail) only [go_sem,seval,-List.reduceReplicate]
      refine .q ?_;refine .frzV 6 (by simp (disch:=first|exact za|fail) only [go_sem,seval,-List.reduceReplicate];rfl) (by simp (disch:=first|exact za|fail) only [go_sem,seval,-List.reduceReplicate]<;>rfl) (xs:=pl bo (s.gone.set k true)) (by rw [flat_bo',zhP]) (by rw [zao,List.length_set]) zii ?_;(try simp (disch:=first|exact za|fail) only [go_sem,seval,-List.reduceReplicate])
      refine .q ?_;refine .text ?_;simp (disch:=first|exact za|fail) only [go_sem,seval,-List.reduceReplicate,zuG]
      refine .q ?_;refine .rt Tryd.func52 (by rw [Tryd.results52]) (hR := ?_);simp (disch:=first|exact za|fail) only [go_sem,seval,-List.reduceReplicate]
      exact h
set_option maxHeartbeats 4000000 in
set_option maxRecDepth 20000 in
theorem yG (hG0:G 0=some (8,[.agg (pl zw inits)])) (hG1:G 1=some (64,[.agg (pl zw ks)])) (d:By) (s0 i:Int) (hd:d.length≤1000000000) (H:Hp) (R:AV → Hp → Prop)
 (h:R (.tup [.p (sto (rtV (d,s0) i).1.1 (rtV (d,s0) i).1.2),.p (i64 (rtV (d,s0) i).2)]) H):ACall Tryd.prog G 15 [.p (sto d s0),.p (i64 i)] H R:=by
 unfold rtV at h
 have hok:=zhk (d:=d)
 have hlN:=zhl (d:=d)
 refine ACall.of_run (raw:=[]) Tryd.func15 rfl Tryd.ntmps15 (by simp) fun hbel => ?_
 refine .q ?_;refine .text ?_;simp (disch:=first|exact za|fail) only [go_sem,seval,-List.reduceReplicate]
 refine .q ?_;refine .text ?_;simp (disch:=first|exact za|fail) only [go_sem,seval,-List.reduceReplicate]
 refine CallK.of (fun R h=>zas hG0 hG1 d s0 (by omega) _ R h) ?_;simp (disch:=first|exact za|fail) only [go_sem,seval,-List.reduceReplicate]
 obtain⟨S,hS⟩ : ∃ S,S=lS d:=⟨_,rfl⟩
 obtain⟨N,hN⟩ : ∃ N,N=lN d:=⟨_,rfl⟩
 dsimp only at h
 rw [←hS] at h hok ⊢
 rw [←hN] at h hlN ⊢
 have hSl:=hok.2
 obtain⟨V,hV⟩ : ∃ V,V=yP S i:=⟨_,rfl⟩
 have hret : ∀ (B:Hp) (R:AV → Hp → Prop),R (.tup [.p (stm V.1),.p (i64 V.2)]) B → ACall Tryd.prog G 52 [.p (stm S),.p (i64 i)] B R:=fun B R h=>zgK S i hok.2 hok.1 B R (by rw [hV] at h;exact h)
 rw [←hV] at h
 refine .q ?_;refine .text ?_;simp (disch:=first|exact za|fail) only [go_sem,seval,-List.reduceReplicate]
 refine CallK.of (fun R h=>hret _ R h) ?_;simp (disch:=first|exact za|fail) only [go_sem,seval,-List.reduceReplicate]
 by_cases c1:V.2=0
 rotate_left
 · have d1:(V.2 != 0)=true:=by simpa using c1
   rw [if_pos c1] at h
   refine .q ?_;refine .text ?_;simp (disch:=first|exact za|fail) only [go_sem,seval,-List.reduceReplicate,d1]
   refine .q ?_;refine .ifT (by simp (disch:=first|exact za|fail) only [go_sem,seval,-List.reduceReplicate]) ?_
   refine .q ?_;refine .text ?_;simp (disch:=first|exact za|fail) only [go_sem,seval,-List.reduceReplicate]
   refine .q ?_;refine .rt Tryd.func15 (by rw [Tryd.results15]) (hR := ?_);simp (disch:=first|exact za|fail) only [go_sem,seval,-List.reduceReplicate]
   exact h
 have d1:(V.2 != 0)=false:=by simpa using c1
 rw [if_neg (fun e=>e c1)] at h
 have hk : ∃ k:Nat,i=k:=by
  refine⟨i.toNat,?_⟩
  unfold yP at hV
  by_cases e:i < 0 ∨ (S.l.length:Int)≤i
  · rw [if_pos e] at hV;rw [hV] at c1;exact absurd c1 (by decide)
  · omega
 obtain⟨k,rfl⟩:=hk
 rw [Int.toNat_natCast] at h
 obtain⟨q,hq⟩ : ∃ q,q=rcd 2#8 (zW 4 k):=⟨_,rfl⟩
 have hrl:q.length=17:=by rw [hq,zaf,zv]
 rw [←hq] at h
 have hrec : ∀ (B:Hp) (R:AV → Hp → Prop),R (.p (.sl false 1 (pl b8 q))) B → ACall Tryd.prog G 45 [.p (b8 2#8),.p (.sl false 1 (pl b8 (zW 4 k)))] B R:=fun B R h=>zeF hG0 hG1 2#8 (zW 4 k) (by rw [zv];decide) B R (by rw [hq] at h;exact h)
 refine .q ?_;refine .text ?_;simp (disch:=first|exact za|fail) only [go_sem,seval,-List.reduceReplicate,d1]
 refine .q ?_;refine .ifF (by simp (disch:=first|exact za|fail) only [go_sem,seval,-List.reduceReplicate]) ?_
 refine .skip ?_
 refine .q ?_;refine .open [6] follows (by kernel_rfl) ?_;simp (disch:=first|exact za|fail) only [go_sem,seval,-List.reduceReplicate]
 refine CallD.still (fun R h=>ziy k 4 (by decide) _ R h) ?_;simp (disch:=first|exact za|fail) only [go_sem,seval,-List.reduceReplicate]
 refine CallD.still (fun R h=>hrec _ R h) ?_;simp (disch:=first|exact za|fail) only [go_sem,seval,-List.reduceReplicate]
 refine CallD.still (fun R h=>zd4 d q s0 N hlN (by omega) (by omega) _ R h) ?_;simp (disch:=first|exact za|fail) only [go_sem,seval,-List.reduceReplicate]
 refine .q ?_;refine .rt Tryd.func15 (by rw [Tryd.results15]) (hR := ?_);simp (disch:=first|exact za|fail) only [go_sem,seval,-List.reduceReplicate]
 exact h
end walks
end Go.Proofs.YtdpfkanfahchjaaDoor

/-
  The log of readings: payloads applied to a stream,by the reference.
-/
namespace Go.Proofs.YtdpfkanfahchjaaDoor
open Go Go.AL

theorem zn5 {rows:Nat} {c:Nat → By} (h:zmF rows c) : ∀ r∈zdm rows c,vR r:=fun r hr=>by
 simp only [zdm,List.mem_map,List.mem_range] at hr
 obtain⟨i,hi,rfl⟩:=hr
 have key : ∀ k,k < 4 → ((((dec (yh (c k)))[i]?.getD 0#8).toNat:Nat):Int)≤top k:=fun k hk=>by
  obtain⟨_,h2,_,h4⟩:=h k hk
  have hlt:i < (dec (yh (c k))).length:=by omega
  rw [List.getElem?_eq_getElem hlt,Option.getD_some]
  obtain⟨p,hp,e⟩:=zia.1 (List.getElem_mem hlt)
  have:=h2 p hp
  rw [e] at this
  omega
 have h0:=key 0 (by decide)
 have h1:=key 1 (by decide)
 have h2:=key 2 (by decide)
 have h3:=key 3 (by decide)
 simp only [top] at h0 h1 h2 h3
 refine⟨⟨?_,?_⟩,⟨?_,?_⟩,⟨?_,?_⟩,⟨?_,?_⟩⟩<;>simp only [mkR]<;>omega
theorem zuR {rows:Int} {cs:List By} : ∀ r∈(zag rows cs).1,vR r:=by
 unfold zag
 split
 · rename_i h;exact zn5 h.2.2.2
 · intro r hr;cases hr
noncomputable def zkO (s:Strm) (k:BitVec 8) (p:By):Strm × Bool :=
 if k=2#8 then (if p.length=4 then ((yP s (val p:Nat)).1,(yP s (val p:Nat)).2 == 0) else (s,false))
 else match zY s k p with | some s'=>(s',true) | none=>(s,false)
theorem zpZ {s s':Strm} {k:BitVec 8} {p:By} (h:zY s k p=some s'):zkO s k p=(s',true):=by
 unfold zkO
 split
 · rename_i e
   subst e
   have h':zY ⟨s.l,s.gone⟩ 2#8 p=some s':=h
   rw [zd5] at h'
   split at h'
   · rename_i c
     rw [if_pos c]
     have h2:zdn s (val p)=some s':=h'
     rw [zm3] at h2
     split at h2
     · rename_i q;cases h2;rw [q];rfl
     · cases h2
   · cases h'
 · rw [h]
theorem zp0 {s:Strm} {k:BitVec 8} {p:By} (h:zY s k p=none):(zkO s k p).2=false:=by
 unfold zkO
 split
 · rename_i e
   subst e
   have h':zY ⟨s.l,s.gone⟩ 2#8 p=none:=h
   rw [zd5] at h'
   split at h'
   · rename_i c
     rw [if_pos c]
     have h2:zdn s (val p)=none:=h'
     rw [zm3] at h2
     split at h2
     · cases h2
     · rename_i q;exact beq_eq_false_iff_ne.2 q
   · rename_i c;rw [if_neg c]
 · rw [h]
section walks
variable {G:Globs}
set_option maxHeartbeats 4000000 in
set_option maxRecDepth 20000 in
theorem zkP (s:Strm) (k:BitVec 8) (p:By) (hs:SOk s) (hp:p.length≤1048576) (H:Hp) (R:AV → Hp → Prop) (h:R (.tup [.p (stm (zkO s k p).1),.p (bo (zkO s k p).2)]) H) :
    ACall Tryd.prog G 40 [.p (stm s),.p (b8 k),.p (.sl false 1 (pl b8 p))] H R:=by
  have hsl:=hs.2
  have hsw:(stm s).weak=stm s:=rfl
  unfold zkO at h
  refine ACall.of_run (raw:=[]) Tryd.func40 rfl Tryd.ntmps40 (by simp) fun hbel => ?_
  refine .q ?_;refine .text ?_;simp (disch:=first|exact za|fail) only [go_sem,seval,-List.reduceReplicate]
  refine .q ?_;refine .text ?_;simp (disch:=first|exact za|fail) only [go_sem,seval,-List.reduceReplicate]
  by_cases k2:k=2#8
  · rw [if_pos k2] at h
    have dk:(k == 2#8)=true:=by simpa using k2
    refine .q ?_;refine .ifT (by simp (disch:=first|exact za|fail) only [go_sem,seval,-List.reduceReplicate,dk]) ?_
    refine .q ?_;refine .text ?_;simp (disch:=first|exact za|fail) only [go_sem,seval,-List.reduceReplicate]
    by_cases c1:p.length=4
    rotate_left
    · have d1:((p.length:Int) != 4)=true:=bne_iff_ne.2 (by omega)
      rw [if_neg c1] at h
      refine .q ?_;refine .ifT (by simp (disch:=first|exact za|fail) only [go_sem,seval,-List.reduceReplicate,d1]) ?_
      refine .q ?_;refine .text ?_;simp (disch:=first|exact za|fail) only [go_sem,seval,-List.reduceReplicate]
      refine .q ?_;refine .rt Tryd.func40 (by rw [Tryd.results40]) (hR := ?_);simp (disch:=first|exact za|fail) only [go_sem,seval,-List.reduceReplicate]
      exact h
    have d1:((p.length:Int) != 4)=false:=by simp;omega
    rw [if_pos c1] at h
    refine .q ?_;refine .ifF (by simp (disch:=first|exact za|fail) only [go_sem,seval,-List.reduceReplicate,d1]) ?_
    refine .skip ?_
    obtain⟨V,hV⟩ : ∃ V,V=yP s (val p:Nat):=⟨_,rfl⟩
    have hret : ∀ (B:Hp) (R:AV → Hp → Prop),R (.tup [.p (stm V.1),.p (i64 V.2)]) B → ACall Tryd.prog G 33 [.p (stm s),.p (i64 (val p:Nat))] B R:=fun B R h=>zc4 s (val p:Nat) hs.2 hs.1 B R (by rw [hV] at h;exact h)
    rw [←hV] at h
    obtain⟨B,hB⟩ : ∃ B,B=((H.new (.cells [.p (.sl false 4 (pl zy s.l)),.p (.sl false 1 (pl bo s.gone))])).new (.cells [.p (.sl true 4 []),.p (.sl true 1 [])])).new (.cells [.p (.sl false 4 (pl zy V.1.l)),.p (.sl false 1 (pl bo V.1.gone))]):=⟨_,rfl⟩
    refine .q ?_;refine .cutH [6] [(8,.ptr (H.n+2) 0),(9,.p (i64 V.2))] (B) (fun ihF => ?_) (fun env F => ?_)
    rotate_left 1
    simp (disch:=first|exact za|fail) only [go_sem,seval,-List.reduceReplicate] at F
    rotate_left 1
    · refine .openTr (.one 0 (.one 1 (.fork 2 7 (.fork 3 7 (.lin [4,5,6,7,8,9]) (.lin [3,4,5,6,8,9])) (.lin [2,3,4,5,6,8,9])))) [7,8] follows (by kernel_rfl) ?_
      refine zB (.p (stm s)) rfl rfl (by simp (disch:=first|exact za|fail) only [go_sem,seval,-List.reduceReplicate]<;>rfl) rfl ?_
      refine zB (.p (.sl false 1 (pl b8 p))) rfl rfl (by simp (disch:=first|exact za|fail) only [go_sem,seval,-List.reduceReplicate]<;>rfl) rfl ?_
      refine And.intro (zaE (.p (i64 (val p:Nat))) rfl rfl (by simp (disch:=first|exact za|fail) only [go_sem,seval,-List.reduceReplicate]<;>rfl) (by rfl) rfl (fun R h=>yX p (by omega) _ R h) (And.intro ?_ ?_)) ?_
      · refine zaE (.tup [.p (stm V.1),.p (i64 V.2)]) rfl rfl (by simp (disch:=first|exact za|fail) only [go_sem,seval,-List.reduceReplicate]<;>rfl) (by rfl) rfl (fun R h=>hret _ R h) ?_
        refine zT [3,4] (by kernel_rfl) ?_
        simp (disch:=first|exact za|fail) only [go_sem,seval,-List.reduceReplicate]
        first | (refine ihF _ _ ?_ ?_) | (refine .z rfl ?_;refine ihF _ _ ?_ ?_) | (refine .z rfl ?_;refine .z rfl ?_;refine ihF _ _ ?_ ?_) | (refine .z rfl ?_;refine .z rfl ?_;refine .z rfl ?_;refine ihF _ _ ?_ ?_)
        · simp (disch:=first|exact za|fail) only [go_sem,seval,-List.reduceReplicate]<;>(repeat' (first | rfl | refine And.intro ?_ ?_))
        · exact hB.symm
      · refine zad (.ptr (H.n+2) 0) rfl rfl (by simp (disch:=first|exact za|fail) only [go_sem,seval,-List.reduceReplicate]<;>rfl) rfl ?_
        refine zT [4] (by kernel_rfl) ?_
        simp (disch:=first|exact za|fail) only [go_sem,seval,-List.reduceReplicate,hsw]
        refine CallD.still (fun R h=>hret _ R h) ?_;simp (disch:=first|exact za|fail) only [go_sem,seval,-List.reduceReplicate,hsw]
        first | (refine ihF _ _ ?_ ?_) | (refine .z rfl ?_;refine ihF _ _ ?_ ?_) | (refine .z rfl ?_;refine .z rfl ?_;refine ihF _ _ ?_ ?_) | (refine .z rfl ?_;refine .z rfl ?_;refine .z rfl ?_;refine ihF _ _ ?_ ?_)
        · simp (disch:=first|exact za|fail) only [go_sem,seval,-List.reduceReplicate]<;>(repeat' (first | rfl | refine And.intro ?_ ?_))
        · exact hB.symm
      · refine zad (.ptr (H.n+2) 0) rfl rfl (by simp (disch:=first|exact za|fail) only [go_sem,seval,-List.reduceReplicate]<;>rfl) rfl ?_
        refine zT [5] (by kernel_rfl) ?_
        simp (disch:=first|exact za|fail) only [go_sem,seval,-List.reduceReplicate]
        refine CallD.still (fun R h=>yX p (by omega) _ R h) ?_;simp (disch:=first|exact za|fail) only [go_sem,seval,-List.reduceReplicate,hsw]
        refine CallD.still (fun R h=>hret _ R h) ?_;simp (disch:=first|exact za|fail) only [go_sem,seval,-List.reduceReplicate,hsw]
        first | (refine ihF _ _ ?_ ?_) | (refine .z rfl ?_;refine ihF _ _ ?_ ?_) | (refine .z rfl ?_;refine .z rfl ?_;refine ihF _ _ ?_ ?_) | (refine .z rfl ?_;refine .z rfl ?_;refine .z rfl ?_;refine ihF _ _ ?_ ?_)
        · simp (disch:=first|exact za|fail) only [go_sem,seval,-List.reduceReplicate]<;>(repeat' (first | rfl | refine And.intro ?_ ?_))
        · exact hB.symm
    · subst hB
      refine .q ?_;refine .text ?_;simp (disch:=first|exact za|fail) only [go_sem,seval,-List.reduceReplicate,F]
      refine .q ?_;refine .rt Tryd.func40 (by rw [Tryd.results40]) (hx:=by simp (disch:=first|exact za|fail) only [go_sem,seval,-List.reduceReplicate,F];rfl) (hR := ?_);simp (disch:=first|exact za|fail) only [go_sem,seval,-List.reduceReplicate,F]
      exact h
  rw [if_neg k2] at h
  have dk:(k == 2#8)=false:=beq_eq_false_iff_ne.2 k2
  refine .q ?_;refine .ifF (by simp (disch:=first|exact za|fail) only [go_sem,seval,-List.reduceReplicate,dk]) ?_
  refine .skip ?_
  have fail:zY s k p=none → R (.tup [.p (stm s),.p (bo false)]) H:=fun e=>by rw [e] at h;exact h
  by_cases k1:k=1#8
  rotate_left
  · have d1:(k != 1#8)=true:=bne_iff_ne.2 k1
    refine .q ?_;refine .text ?_;simp (disch:=first|exact za|fail) only [go_sem,seval,-List.reduceReplicate,d1]
    refine .q ?_;refine .ifT (by simp (disch:=first|exact za|fail) only [go_sem,seval,-List.reduceReplicate]) ?_
    refine .q ?_;refine .text ?_;simp (disch:=first|exact za|fail) only [go_sem,seval,-List.reduceReplicate]
    refine .q ?_;refine .rt Tryd.func40 (by rw [Tryd.results40]) (hR := ?_);simp (disch:=first|exact za|fail) only [go_sem,seval,-List.reduceReplicate]
    exact fail (by rw [zY,if_neg k1,if_neg fun q=>k2 q.1])
  have d1:(k != 1#8)=false:=by simp [k1]
  have np:zcG p=none → R (.tup [.p (stm s),.p (bo false)]) H:=fun e=>fail (by rw [zY,if_pos k1,e])
  by_cases c1:p.length < 2
  · have d2:decide ((p.length:Int) < 2)=true:=decide_eq_true (by omega)
    refine .q ?_;refine .text ?_;simp (disch:=first|exact za|fail) only [go_sem,seval,-List.reduceReplicate,d1,d2]
    refine .q ?_;refine .ifT (by simp (disch:=first|exact za|fail) only [go_sem,seval,-List.reduceReplicate]) ?_
    refine .q ?_;refine .text ?_;simp (disch:=first|exact za|fail) only [go_sem,seval,-List.reduceReplicate]
    refine .q ?_;refine .rt Tryd.func40 (by rw [Tryd.results40]) (hR := ?_);simp (disch:=first|exact za|fail) only [go_sem,seval,-List.reduceReplicate]
    exact np (by unfold zcG;rw [if_pos c1])
  have d2:decide ((p.length:Int) < 2)=false:=decide_eq_false (by omega)
  have h2:(p.take 2).length=2:=by rw [List.length_take];omega
  refine .q ?_;refine .text ?_;simp (disch:=first|exact za|fail) only [go_sem,seval,-List.reduceReplicate,d1,d2]
  refine .q ?_;refine .ifF (by simp (disch:=first|exact za|fail) only [go_sem,seval,-List.reduceReplicate]) ?_
  refine .skip ?_
  refine .q ?_;refine .text ?_;simp (disch:=first|exact za|fail) only [go_sem,seval,-List.reduceReplicate]
  refine CallK.of (fun R h=>yX (p.take 2) (by omega) _ R h) ?_;simp (disch:=first|exact za|fail) only [go_sem,seval,-List.reduceReplicate]
  obtain⟨rows,hrows⟩ : ∃ rows,rows=val (p.take 2):=⟨_,rfl⟩
  rw [←hrows]
  refine .q ?_;refine .text ?_;simp (disch:=first|exact za|fail) only [go_sem,seval,-List.reduceReplicate]
  obtain⟨B,hB⟩ : ∃ B,B=p.drop 2:=⟨_,rfl⟩
  have hBl:B.length≤1048576:=by rw [hB,List.length_drop];omega
  have psg:zcG p=match zX 4 B with | some (cs,r)=>if r.length=0 then some (rows,cs) else none | none=>none:=by
    unfold zcG;rw [if_neg c1,←hB,←hrows]
    cases zX 4 B with
    | none=>rfl
    | some q=>obtain⟨cs,r⟩:=q;cases r<;>rfl
  have bad:zX 4 B=none → R (.tup [.p (stm s),.p (bo false)]) H:=fun e=>np (by rw [psg,e])
  have hr0:rI B 0=B:=rfl
  have hc0:csI B 0=[]:=rfl
  rw [←hB]
  refine .q ?_;refine .text ?_;simp (disch:=first|exact za|fail) only [go_sem,seval,-List.reduceReplicate]
  refine .q ?_;refine .ownC (H.n+2) 1 (by simp (disch:=first|exact za|fail) only [go_sem,seval,-List.reduceReplicate];rfl) (by rfl) ?_;simp (disch:=first|exact za|fail) only [go_sem,seval,-List.reduceReplicate,List.set_cons_zero,List.set_cons_succ]
  refine .q ?_;refine .loopE [3,6,10] (fun i=>[(2,.p (.sl false 1 (pl b8 (rI B i)))),(11,.p (i64 i))]) (fun i=>[(H.n+2,.cells [.p (i64 rows),.sl (H.n+3) i 1 (pl (sle 1 b8) (csI B i))]),(H.n+3,.tail i)]) (fun i=>(zX i B).isSome=true) (0) (4) (by omega) ?_ (by first | rfl | (simp (disch:=first|exact za|fail) only [go_sem,seval,-List.reduceReplicate,hr0,hc0]<;>rfl)) ?_ ?_ ?_
  · simp (disch:=first|exact za|fail) only [go_sem,seval,-List.reduceReplicate,hr0,hc0]<;>(repeat' (first | rfl | refine And.intro ?_ ?_))
  rotate_left 1
  intro env E hQ;simp (disch:=first|exact za|fail) only [go_sem,seval,-List.reduceReplicate,hr0,hc0] at E
  rotate_left 1
  intro i env hi0 hi E hQ ihE;simp (disch:=first|exact za|fail) only [go_sem,seval,-List.reduceReplicate,hr0,hc0] at E
  rotate_left 1
  · rfl
  · have hps:=zb9 hQ
    obtain⟨cs,hcs⟩ : ∃ cs,cs=csI B 4:=⟨_,rfl⟩
    obtain⟨r,hr⟩ : ∃ r,r=rI B 4:=⟨_,rfl⟩
    have hcl:=(zbk hps).2
    rw [hps] at psg
    dsimp only at psg
    rw [←hcs,←hr] at psg
    rw [←hcs] at hcl
    refine .q ?_;refine .text ?_;simp (disch:=first|exact za|fail) only [go_sem,seval,-List.reduceReplicate,E]
    refine .q ?_;refine .ifF (by simp (disch:=first|exact za|fail) only [go_sem,seval,-List.reduceReplicate]) ?_
    refine .q ?_;refine .text ?_;simp (disch:=first|exact za|fail) only [go_sem,seval,-List.reduceReplicate,E,←hcs,zaP]
    refine CallK.of (fun R h=>zio (rows:Int) cs (fun c hc=>Nat.le_trans (hcl c hc) (by omega)) _ R h) ?_;simp (disch:=first|exact za|fail) only [go_sem,seval,-List.reduceReplicate,E,←hcs]
    obtain⟨e,hee⟩ : ∃ e,e=(zag rows cs).2:=⟨_,rfl⟩
    obtain⟨W,hL⟩ : ∃ W,W=(zag rows cs).1:=⟨_,rfl⟩
    have hLl:e=0 → W.length=rows:=fun h=>by rw [hL];exact zkM (by rw [←hee];exact h)
    have hLe:e=0 → rows≤4096:=fun h=>zn2 (cs:=cs) (by rw [←hee];exact h)
    have hWv : ∀ r∈W,vR r:=fun r hr=>zuR r (by rw [←hL];exact hr)
    rw [←hee,←hL]
    have no:zcG p=some (rows,cs) → ¬ (0 < rows∧e=0∧s.l.length+rows≤65536) → R (.tup [.p (stm s),.p (bo false)]) H:=fun q1 q2=>fail (by
      rw [k1,show zY s 1#8 p=zY ⟨s.l,s.gone⟩ 1#8 p from rfl,zgb q1,←hee,if_neg q2])
    by_cases c2:e=0
    rotate_left
    · have d2:(e != 0)=true:=by simpa using c2
      refine .q ?_;refine .text ?_;simp (disch:=first|exact za|fail) only [go_sem,seval,-List.reduceReplicate,E,d2]
      refine .q ?_;refine .ifT (by simp (disch:=first|exact za|fail) only [go_sem,seval,-List.reduceReplicate]) ?_
      refine .q ?_;refine .text ?_;simp (disch:=first|exact za|fail) only [go_sem,seval,-List.reduceReplicate,E]
      refine .q ?_;refine .rt Tryd.func40 (by rw [Tryd.results40]) (hx:=by simp (disch:=first|exact za|fail) only [go_sem,seval,-List.reduceReplicate,E];rfl) (hR := ?_);simp (disch:=first|exact za|fail) only [go_sem,seval,-List.reduceReplicate,E]
      by_cases hrl:r.length=0
      · exact no (by rw [psg,if_pos hrl]) fun q=>c2 q.2.1
      · exact np (by rw [psg,if_neg hrl])
    have d2:(e != 0)=false:=by simpa using c2
    have hLr:=hLl c2
    have hLm:=hLe c2
    by_cases c3:r.length=0
    rotate_left
    · have d3:decide ((0:Int) < (r.length:Int))=true:=decide_eq_true (by omega)
      refine .q ?_;refine .text ?_;simp (disch:=first|exact za|fail) only [go_sem,seval,-List.reduceReplicate,E,d2,←hr,d3]
      refine .q ?_;refine .ifT (by simp (disch:=first|exact za|fail) only [go_sem,seval,-List.reduceReplicate]) ?_
      refine .q ?_;refine .text ?_;simp (disch:=first|exact za|fail) only [go_sem,seval,-List.reduceReplicate,E]
      refine .q ?_;refine .rt Tryd.func40 (by rw [Tryd.results40]) (hx:=by simp (disch:=first|exact za|fail) only [go_sem,seval,-List.reduceReplicate,E];rfl) (hR := ?_);simp (disch:=first|exact za|fail) only [go_sem,seval,-List.reduceReplicate,E]
      exact np (by rw [psg,if_neg c3])
    rw [if_pos c3] at psg
    have d3:decide ((0:Int) < (r.length:Int))=false:=decide_eq_false (by omega)
    by_cases c4:W.length=0
    · have d4:((W.length:Int) == 0)=true:=beq_iff_eq.2 (by omega)
      refine .q ?_;refine .text ?_;simp (disch:=first|exact za|fail) only [go_sem,seval,-List.reduceReplicate,E,d2,←hr,d3,d4]
      refine .q ?_;refine .ifT (by simp (disch:=first|exact za|fail) only [go_sem,seval,-List.reduceReplicate]) ?_
      refine .q ?_;refine .text ?_;simp (disch:=first|exact za|fail) only [go_sem,seval,-List.reduceReplicate,E]
      refine .q ?_;refine .rt Tryd.func40 (by rw [Tryd.results40]) (hx:=by simp (disch:=first|exact za|fail) only [go_sem,seval,-List.reduceReplicate,E];rfl) (hR := ?_);simp (disch:=first|exact za|fail) only [go_sem,seval,-List.reduceReplicate,E]
      exact no psg (by rintro ⟨q1,q2,q3⟩;omega)
    have d4:((W.length:Int) == 0)=false:=beq_eq_false_iff_ne.2 (by omega)
    by_cases c5:65536 < s.l.length+W.length
    · have d5:decide ((65536:Int) < (s.l.length:Int)+(W.length:Int))=true:=decide_eq_true (by omega)
      refine .q ?_;refine .text ?_;simp (disch:=first|exact za|fail) only [go_sem,seval,-List.reduceReplicate,E,d2,←hr,d3,d4,d5]
      refine .q ?_;refine .ifT (by simp (disch:=first|exact za|fail) only [go_sem,seval,-List.reduceReplicate]) ?_
      refine .q ?_;refine .text ?_;simp (disch:=first|exact za|fail) only [go_sem,seval,-List.reduceReplicate,E]
      refine .q ?_;refine .rt Tryd.func40 (by rw [Tryd.results40]) (hx:=by simp (disch:=first|exact za|fail) only [go_sem,seval,-List.reduceReplicate,E];rfl) (hR := ?_);simp (disch:=first|exact za|fail) only [go_sem,seval,-List.reduceReplicate,E]
      exact no psg (by rintro ⟨q1,q2,q3⟩;omega)
    have d5:decide ((65536:Int) < (s.l.length:Int)+(W.length:Int))=false:=decide_eq_false (by omega)
    have yes:zY s k p=some ⟨s.l++W,s.gone++List.replicate rows false⟩:=by
      rw [k1,show zY s 1#8 p=zY ⟨s.l,s.gone⟩ 1#8 p from rfl,zgb psg,←hee,←hL,if_pos ⟨by omega,c2,by omega⟩]
    rw [yes] at h
    dsimp only at h
    refine .q ?_;refine .text ?_;simp (disch:=first|exact za|fail) only [go_sem,seval,-List.reduceReplicate,E,d2,←hr,d3,d4,d5]
    refine .q ?_;refine .ifF (by simp (disch:=first|exact za|fail) only [go_sem,seval,-List.reduceReplicate]) ?_
    refine .skip ?_
    refine .q ?_;refine .text ?_;simp (disch:=first|exact za|fail) only [go_sem,seval,-List.reduceReplicate,E]
    have ht0:W.take 0=[]:=rfl
    have hta:W.take W.length=W:=List.take_length
    refine .q ?_;refine .loopE [3,6,13] (fun j=>[(15,.p (i64 j))]) (fun j=>[(H.n,.cells [.p (.sl false 4 (pl zy (s.l++W.take j))),.p (.sl false 1 (pl bo (s.gone++List.replicate j false)))])]) (fun j=>True) (0) (W.length) (by omega) ?_ (by first | rfl | (simp (disch:=first|exact za|fail) only [go_sem,seval,-List.reduceReplicate,ht0,List.append_nil,List.replicate_zero,E]<;>rfl)) ?_ ?_ ?_
    · simp (disch:=first|exact za|fail) only [go_sem,seval,-List.reduceReplicate,ht0,List.append_nil,List.replicate_zero,E]<;>(repeat' (first | rfl | refine And.intro ?_ ?_))
    rotate_left 1
    intro env M hQ;simp (disch:=first|exact za|fail) only [go_sem,seval,-List.reduceReplicate,ht0,List.append_nil,List.replicate_zero,E] at M
    rotate_left 1
    intro j env hj0 hj M hQ ihM;simp (disch:=first|exact za|fail) only [go_sem,seval,-List.reduceReplicate,ht0,List.append_nil,List.replicate_zero,E] at M
    rotate_left 1
    · trivial
    · refine .q ?_;refine .text ?_;simp (disch:=first|exact za|fail) only [go_sem,seval,-List.reduceReplicate,M]
      refine .q ?_;refine .ifF (by simp (disch:=first|exact za|fail) only [go_sem,seval,-List.reduceReplicate]) ?_
      refine .q ?_;refine .text ?_;simp (disch:=first|exact za|fail) only [go_sem,seval,-List.reduceReplicate,M,hta]
      refine .q ?_;refine .rt Tryd.func40 (by rw [Tryd.results40]) (hx:=by simp (disch:=first|exact za|fail) only [go_sem,seval,-List.reduceReplicate,M];rfl) (hR := ?_);simp (disch:=first|exact za|fail) only [go_sem,seval,-List.reduceReplicate,M]
      rw [←hLr] at h
      exact h
    · refine .q ?_;refine .text ?_;simp (disch:=first|exact za|fail) only [go_sem,seval,-List.reduceReplicate,M]
      refine .q ?_;refine .ifT (by simp (disch:=first|exact za|fail) only [go_sem,seval,-List.reduceReplicate]) ?_
      have hjl:j < W.length:=by omega
      have hag : ∀ r,(zy r).aggOf 0 4=zy r:=fun _=>rfl
      have hrw : ∀ r,(zy r).weak=zy r:=fun _=>rfl
      have hagg : ∀ x y,PV.agg [PV.sl false 4 (pl zy x),PV.sl false 1 (pl bo y)]=stm ⟨x,y⟩:=fun _ _=>rfl
      have hnm:nth W j∈W:=zah hjl
      have htk:s.l++W.take j++[nth W j]=s.l++W.take (j+1):=by
        rw [List.append_assoc,List.take_add_one,List.getElem?_eq_getElem hjl]
        simp [nth,hjl]
      have hrp:s.gone++List.replicate j false++[false]=s.gone++List.replicate (j+1) false:=by rw [List.append_assoc,←List.replicate_succ']
      have hsg:=hs.1
      have htl:(W.take j).length=j:=by rw [List.length_take];omega
      refine .q ?_;refine .openT [9] follows (by kernel_rfl) ?_;simp (disch:=first|exact za|fail) only [go_sem,seval,-List.reduceReplicate,M,hag,hrw,hagg]
      refine CallD.still (fun R h=>zmS ⟨s.l++W.take j,s.gone++List.replicate j false⟩ (nth W j) (by rw [List.length_append,htl];omega) (by rw [List.length_append,List.length_replicate];omega) (hWv _ hnm) _ R h) ?_;simp (disch:=first|exact za|fail) only [go_sem,seval,-List.reduceReplicate,M]
      refine .q ?_;refine .text ?_;simp (disch:=first|exact za|fail) only [go_sem,seval,-List.reduceReplicate,M]
      first | (refine ihM _ _ ?_ trivial ?_) | (refine .z rfl ?_;refine ihM _ _ ?_ trivial ?_) | (refine .z rfl ?_;refine .z rfl ?_;refine ihM _ _ ?_ trivial ?_) | (refine .z rfl ?_;refine .z rfl ?_;refine .z rfl ?_;refine ihM _ _ ?_ trivial ?_)
      · simp (disch:=first|exact za|fail) only [go_sem,seval,-List.reduceReplicate,M,E,htk,hrp]<;>(repeat' (first | rfl | refine And.intro ?_ ?_))
      · first | rfl | (simp (disch:=first|exact za|fail) only [go_sem,seval,-List.reduceReplicate,M,E,htk,hrp]<;>(try rfl))
  · have hps:=zb9 hQ
    have hsu:=zbj (i:=i) (b:=B)
    rw [hps] at hsu
    dsimp only at hsu
    obtain⟨hrl,hcl⟩:=zbk hps
    have hcn:=zcU hps
    obtain⟨r,hr⟩ : ∃ r,r=rI B i:=⟨_,rfl⟩
    rw [←hr] at hsu hrl
    have fail:zd3 r → R (.tup [.p (stm s),.p (bo false)]) H:=fun e=>bad (zga (i:=i+1) (by omega) (by rw [hsu,if_pos e]))
    refine .q ?_;refine .text ?_;simp (disch:=first|exact za|fail) only [go_sem,seval,-List.reduceReplicate,E]
    refine .q ?_;refine .ifT (by simp (disch:=first|exact za|fail) only [go_sem,seval,-List.reduceReplicate]) ?_
    by_cases c2:r.length < 4
    · have d2:decide ((r.length:Int) < 4)=true:=decide_eq_true (by omega)
      refine .q ?_;refine .text ?_;simp (disch:=first|exact za|fail) only [go_sem,seval,-List.reduceReplicate,E,←hr,d2]
      refine .q ?_;refine .ifT (by simp (disch:=first|exact za|fail) only [go_sem,seval,-List.reduceReplicate]) ?_
      refine .q ?_;refine .text ?_;simp (disch:=first|exact za|fail) only [go_sem,seval,-List.reduceReplicate,E]
      refine .q ?_;refine .rt Tryd.func40 (by rw [Tryd.results40]) (hx:=by simp (disch:=first|exact za|fail) only [go_sem,seval,-List.reduceReplicate,E];rfl) (hR := ?_);simp (disch:=first|exact za|fail) only [go_sem,seval,-List.reduceReplicate,E]
      exact fail (.inl c2)
    have d2:decide ((r.length:Int) < 4)=false:=decide_eq_false (by omega)
    have h4:(r.take 4).length=4:=by rw [List.length_take];omega
    refine .q ?_;refine .text ?_;simp (disch:=first|exact za|fail) only [go_sem,seval,-List.reduceReplicate,E,←hr,d2]
    refine CallK.of (fun R h=>yX (r.take 4) (by omega) _ R h) ?_;simp (disch:=first|exact za|fail) only [go_sem,seval,-List.reduceReplicate,E,←hr,d2]
    obtain⟨n,hn⟩ : ∃ n,n=val (r.take 4):=⟨_,rfl⟩
    rw [←hn] at hsu ⊢
    by_cases c3:r.length < 4+n
    · have d3:decide ((r.length:Int) - 4 < (n:Int))=true:=decide_eq_true (by omega)
      simp (disch:=first|exact za|fail) only [go_sem,seval,-List.reduceReplicate,E,←hr,d3]
      refine .q ?_;refine .ifT (by simp (disch:=first|exact za|fail) only [go_sem,seval,-List.reduceReplicate]) ?_
      refine .q ?_;refine .text ?_;simp (disch:=first|exact za|fail) only [go_sem,seval,-List.reduceReplicate,E]
      refine .q ?_;refine .rt Tryd.func40 (by rw [Tryd.results40]) (hx:=by simp (disch:=first|exact za|fail) only [go_sem,seval,-List.reduceReplicate,E];rfl) (hR := ?_);simp (disch:=first|exact za|fail) only [go_sem,seval,-List.reduceReplicate,E]
      exact fail (.inr (by rw [←hn];exact c3))
    have d3:decide ((r.length:Int) - 4 < (n:Int))=false:=decide_eq_false (by omega)
    rw [if_neg (by unfold zd3;rw [←hn];omega)] at hsu
    simp (disch:=first|exact za|fail) only [go_sem,seval,-List.reduceReplicate,E,←hr,d3]
    refine .q ?_;refine .ifF (by simp (disch:=first|exact za|fail) only [go_sem,seval,-List.reduceReplicate]) ?_
    refine .skip ?_
    refine .q ?_;refine .text ?_;simp (disch:=first|exact za|fail) only [go_sem,seval,-List.reduceReplicate,E,←hr]
    refine CallK.of (fun R h=>yX (r.take 4) (by omega) _ R h) ?_;simp (disch:=first|exact za|fail) only [go_sem,seval,-List.reduceReplicate,E,←hr]
    rw [←hn]
    obtain⟨c,hc⟩ : ∃ c,c=(r.drop 4).take n:=⟨_,rfl⟩
    have i1:(4+(n:Int)).toNat=4+n:=by omega
    have e1':(r.take (4+n)).drop 4=c:=by rw [hc,List.drop_take,show 4+n - 4=n by omega]
    have q1 : csI B i ++ [c] = csI B (i + 1) := by rw [hc]; conv => rhs; rw [csI, hsu]
                                                   rfl
    have q2 : r.drop (4 + n) = rI B (i + 1) := by conv => rhs; rw [rI, hsu]
                                                  rfl
    have hq2:(zX (i+1) B).isSome=true:=by rw [hsu];rfl
    have hkl:(csI B i).length≤100:=by rw [hcn];omega
    have hone:[PV.sl false 1 (pl b8 c)]=pl (sle 1 b8) [c]:=rfl
    have hwk:(PV.sl false 1 (pl b8 c)).weak=PV.sl false 1 (pl b8 c):=rfl
    have hall:((pl (sle 1 b8) [c]).all fun x=>x.cells.length == 1)=true:=rfl
    have hw2:(pl (sle 1 b8) [c]).map PV.weak=pl (sle 1 b8) [c]:=rfl
    refine .q ?_;refine .open [7,9] follows (by kernel_rfl) ?_;simp (disch:=first|exact za|fail) only [go_sem,seval,-List.reduceReplicate,E,←hr,i1,e1',hone,hwk,hall,hw2,hkl,q1]
    refine .q ?_;refine .text ?_;simp (disch:=first|exact za|fail) only [go_sem,seval,-List.reduceReplicate,E,←hr,i1,q2]
    refine .q ?_;refine .text ?_;simp (disch:=first|exact za|fail) only [go_sem,seval,-List.reduceReplicate,E]
    first | (refine ihE _ _ ?_ hq2 ?_) | (refine .z rfl ?_;refine ihE _ _ ?_ hq2 ?_) | (refine .z rfl ?_;refine .z rfl ?_;refine ihE _ _ ?_ hq2 ?_) | (refine .z rfl ?_;refine .z rfl ?_;refine .z rfl ?_;refine ihE _ _ ?_ hq2 ?_)
    · simp (disch:=first|exact za|fail) only [go_sem,seval,-List.reduceReplicate,E]<;>(repeat' (first | rfl | refine And.intro ?_ ?_))
    · first | rfl | (simp (disch:=first|exact za|fail) only [go_sem,seval,-List.reduceReplicate,E]<;>(try rfl))
end walks
end Go.Proofs.YtdpfkanfahchjaaDoor

/-
  The log of readings read whole,by the reference.
-/
namespace Go.Proofs.YtdpfkanfahchjaaDoor
open Go Go.AL

structure LrS where
 B:Hp
 s:Strm
 fl:Bool
 n:Nat
structure LR (H:Hp) (d:By) (s0:Int) (x:LrS):Prop where
 n:H.n+3≤x.B.n
 f1:x.B.f H.n=some (.cells [.p (.sl false 1 (pl b8 d)),.p (i64 s0)])
 f2:x.B.f (H.n+1)=some (.cells [.p (.sl true 4 []),.p (.sl true 1 [])])
 f5:x.B.f (H.n+2)=some (.cells [.p (.sl x.fl 4 (pl zy x.s.l)),.p (.sl x.fl 1 (pl bo x.s.gone))])
 ok:SOk x.s
 ld:ld z0S d=ld x.s (d.drop x.n)
 le:x.n≤d.length
 tr:x.B.trunc H.n=H
theorem ze9 {H B:Hp} {d:By} {s0:Int} {s s':Strm} {fl:Bool} {n m:Nat} (h:LR H d s0 ⟨B,s,fl,n⟩) (hs:SOk s') (hl:Go.Proofs.YtdpfkanfahchjaaDoor.ld s (d.drop n)=Go.Proofs.YtdpfkanfahchjaaDoor.ld s' (d.drop m)) (hm:m≤d.length) (x:AB) :
 LR H d s0 ⟨(B.new x).set (H.n+2) (.cells [.p (.sl false 4 (pl zy s'.l)),.p (.sl false 1 (pl bo s'.gone))]),s',false,m⟩:=by
 obtain⟨hn,f1,f2,f5,ok,hld,hle,tr⟩:=h
 dsimp only at hn f1 f2 f5 ok hld hle tr
 have hb : ∀ b,b < B.n → b≠H.n+2 → ((B.new x).set (H.n+2) (.cells [.p (.sl false 4 (pl zy s'.l)),.p (.sl false 1 (pl bo s'.gone))])).f b=B.f b:=fun b h1 h2=>by
  rw [Hp.f_set_ne _ _ _ _ h2,Hp.f_new_old _ _ _ h1]
 refine⟨?_,(hb _ (by omega) (by omega)).trans f1,(hb _ (by omega) (by omega)).trans f2,?_,hs,hld.trans hl,hm,?_⟩<;>dsimp only
 · show H.n+3≤B.n+1;omega
 · simp (disch:=first|exact za|fail) only [go_sem,seval,-List.reduceReplicate]
 · rw [Hp.trunc_set _ _ _ _ (by omega),Hp.trunc_new _ _ _ (by omega)];exact tr
section walks
variable {G:Globs}
set_option maxHeartbeats 4000000 in
set_option maxRecDepth 20000 in
theorem zdr (d:By) (s0:Int) (hd:d.length≤140737488353000) (H:Hp) (R:AV → Hp → Prop) (h:R (.tup [.p (stm (lS d)),.p (i64 (lN d:Nat)),.p (i64 (lE d))]) H):ACall Tryd.prog G 12 [.p (sto d s0)] H R:=by
 refine ACall.of_run (raw:=[]) Tryd.func12 rfl Tryd.ntmps12 (by simp) fun hbel => ?_
 refine .q ?_;refine .text ?_;simp (disch:=first|exact za|fail) only [go_sem,seval,-List.reduceReplicate]
 refine .q ?_;refine .text ?_;simp (disch:=first|exact za|fail) only [go_sem,seval,-List.reduceReplicate]
 obtain⟨B0,hB0⟩ : ∃ B0,B0=((H.new (.cells [.p (.sl false 1 (pl b8 d)),.p (i64 s0)])).new (.cells [.p (.sl true 4 []),.p (.sl true 1 [])])).new (.cells [.p (.sl true 4 []),.p (.sl true 1 [])]):=⟨_,rfl⟩
 have q0:LR H d s0 ⟨B0,z0S,true,0⟩:=by
  subst hB0
  refine⟨?_,?_,?_,?_,zm2,rfl,Nat.zero_le _,?_⟩<;>dsimp only
  · exact Nat.le_refl _
  · simp (disch:=first|exact za|fail) only [go_sem,seval,-List.reduceReplicate]
  · simp (disch:=first|exact za|fail) only [go_sem,seval,-List.reduceReplicate]
  · simp (disch:=first|exact za|fail) only [go_sem,seval,-List.reduceReplicate]
    rfl
  · simp (disch:=first|exact za|fail) only [go_sem,seval,-List.reduceReplicate]
 rw [←hB0]
 clear hB0
 refine .q ?_;refine .text ?_;simp (disch:=first|exact za|fail) only [go_sem,seval,-List.reduceReplicate]
 refine .q ?_;refine .loopK (S:=LrS) [1,2,5] (fun x=>[(6,.p (i64 x.n))]) (fun x=>x.B) (fun x=>LR H d s0 x) (fun x=>d.length - x.n) (⟨B0,z0S,true,0⟩) ?_ (by first | rfl | (simp (disch:=first|exact za|fail) only [go_sem,seval,-List.reduceReplicate]<;>rfl)) ?_ ?_
 · simp (disch:=first|exact za|fail) only [go_sem,seval,-List.reduceReplicate]<;>(repeat' (first | rfl | refine And.intro ?_ ?_))
 rotate_left 1
 intro x env E hQ ihE;simp (disch:=first|exact za|fail) only [go_sem,seval,-List.reduceReplicate] at E
 rotate_left 1
 · exact q0
 · obtain⟨B,s,fl,n⟩:=x
   have hQ0:=hQ
   obtain⟨hn,f1,f2,f5,ok,hld,hle,tr⟩:=hQ
   dsimp only at hn f1 f2 f5 ok hld hle tr E ⊢
   have hbelB:Bel H.n B:=yc (by rw [tr];exact (Hp.trunc_self H).symm) hbel
   have hres : ∀ q,ld s (d.drop n)=q → lS d=q.1∧lN d=d.length - q.2.1∧lE d=if q.2.2 then 0 else 270:=fun q e=>by
    unfold lS lN lE
    rw [hld,e]
    exact⟨rfl,rfl,rfl⟩
   have hbelH:=hbel
   have hbel:Bel H.n B:=hbelB
   by_cases c0:n < d.length
   rotate_left
   · have d0:decide ((n:Int) < (d.length:Int))=false:=decide_eq_false (by omega)
     have hb0:d.drop n=[]:=List.drop_eq_nil_of_le (by omega)
     have hl:ld s (d.drop n)=(s,0,true):=by rw [hb0];exact zcH
     have hnn:(n:Int)=(d.length:Int):=by omega
     rw [(hres _ hl).1,(hres _ hl).2.1,(hres _ hl).2.2,if_pos rfl,Nat.sub_zero] at h
     refine .q ?_;refine .text ?_;simp (disch:=first|exact za|fail) only [go_sem,seval,-List.reduceReplicate,E,f1,d0]
     refine .q ?_;refine .ifF (by simp (disch:=first|exact za|fail) only [go_sem,seval,-List.reduceReplicate]) ?_
     refine .q ?_;refine .text ?_;simp (disch:=first|exact za|fail) only [go_sem,seval,-List.reduceReplicate,E,f5,f2]
     refine .q ?_;refine .rt Tryd.func12 (by rw [Tryd.results12]) (hx:=by simp (disch:=first|exact za|fail) only [go_sem,seval,-List.reduceReplicate,E,hnn,tr];rfl) (hR := ?_);simp (disch:=first|exact za|fail) only [go_sem,seval,-List.reduceReplicate,E,hnn,tr]
     exact h
   have d0:decide ((n:Int) < (d.length:Int))=true:=decide_eq_true (by omega)
   obtain⟨b,hb⟩ : ∃ b,b=d.drop n:=⟨_,rfl⟩
   have hbl:b.length=d.length - n:=by rw [hb,List.length_drop]
   refine .q ?_;refine .text ?_;simp (disch:=first|exact za|fail) only [go_sem,seval,-List.reduceReplicate,E,f1,d0]
   refine .q ?_;refine .ifT (by simp (disch:=first|exact za|fail) only [go_sem,seval,-List.reduceReplicate]) ?_
   refine .q ?_;refine .text ?_;simp (disch:=first|exact za|fail) only [go_sem,seval,-List.reduceReplicate,E,f1]
   rw [←hb] at hres ⊢
   have stop:ld s b=(s,b.length,false) → R (.tup [.p (stm s),.p (i64 n),.p (i64 270)]) H:=fun hl=>by
    rw [(hres _ hl).1,(hres _ hl).2.1,(hres _ hl).2.2,if_neg (by exact Bool.false_ne_true)] at h
    dsimp only at h
    rw [show ((d.length - b.length:Nat):Int)=(n:Int) by omega] at h
    exact h
   have none':spl b=none → R (.tup [.p (stm s),.p (i64 n),.p (i64 270)]) H:=fun e=>stop (zdQ (by omega) e)
   by_cases c1:b.length < 13
   · have d1:decide ((b.length:Int) < 13)=true:=decide_eq_true (by omega)
     refine .q ?_;refine .text ?_;simp (disch:=first|exact za|fail) only [go_sem,seval,-List.reduceReplicate,E,d1]
     refine .q ?_;refine .ifT (by simp (disch:=first|exact za|fail) only [go_sem,seval,-List.reduceReplicate]) ?_
     refine .q ?_;refine .text ?_;simp (disch:=first|exact za|fail) only [go_sem,seval,-List.reduceReplicate,E,f5,f2]
     refine .q ?_;refine .rt Tryd.func12 (by rw [Tryd.results12]) (hx:=by simp (disch:=first|exact za|fail) only [go_sem,seval,-List.reduceReplicate,E,tr];rfl) (hR := ?_);simp (disch:=first|exact za|fail) only [go_sem,seval,-List.reduceReplicate,E,tr]
     exact none' (by rw [spl,if_pos c1])
   have d1:decide ((b.length:Int) < 13)=false:=decide_eq_false (by omega)
   have h4:(b.take 4).length=4:=by rw [List.length_take];omega
   refine .q ?_;refine .text ?_;simp (disch:=first|exact za|fail) only [go_sem,seval,-List.reduceReplicate,E,d1]
   refine .q ?_;refine .ifF (by simp (disch:=first|exact za|fail) only [go_sem,seval,-List.reduceReplicate]) ?_
   refine .skip ?_
   refine .q ?_;refine .text ?_;simp (disch:=first|exact za|fail) only [go_sem,seval,-List.reduceReplicate,E]
   refine CallK.of (fun R h=>yX (b.take 4) (by omega) _ R h) ?_;simp (disch:=first|exact za|fail) only [go_sem,seval,-List.reduceReplicate,E]
   obtain⟨v,hv⟩ : ∃ v,v=val (b.take 4):=⟨_,rfl⟩
   rw [←hv]
   by_cases c2:1048576 < v
   · have d2:decide ((1048576:Int) < (v:Int))=true:=decide_eq_true (by omega)
     refine .q ?_;refine .open [] follows (by kernel_rfl) ?_;simp (disch:=first|exact za|fail) only [go_sem,seval,-List.reduceReplicate,E,d2]
     refine .q ?_;refine .ifT (by simp (disch:=first|exact za|fail) only [go_sem,seval,-List.reduceReplicate]) ?_
     refine .q ?_;refine .text ?_;simp (disch:=first|exact za|fail) only [go_sem,seval,-List.reduceReplicate,E,f5,f2]
     refine .q ?_;refine .rt Tryd.func12 (by rw [Tryd.results12]) (hx:=by simp (disch:=first|exact za|fail) only [go_sem,seval,-List.reduceReplicate,E,tr];rfl) (hR := ?_);simp (disch:=first|exact za|fail) only [go_sem,seval,-List.reduceReplicate,E,tr]
     exact none' (by rw [spl,if_neg c1,←hv,if_pos (.inl c2)])
   have d2:decide ((1048576:Int) < (v:Int))=false:=decide_eq_false (by omega)
   by_cases c3:b.length < 13+v
   · have d3:decide ((b.length:Int) < 13+(v:Int))=true:=decide_eq_true (by omega)
     refine .q ?_;refine .open [] follows (by kernel_rfl) ?_;simp (disch:=first|exact za|fail) only [go_sem,seval,-List.reduceReplicate,E,d2,d3]
     refine .q ?_;refine .ifT (by simp (disch:=first|exact za|fail) only [go_sem,seval,-List.reduceReplicate]) ?_
     refine .q ?_;refine .text ?_;simp (disch:=first|exact za|fail) only [go_sem,seval,-List.reduceReplicate,E,f5,f2]
     refine .q ?_;refine .rt Tryd.func12 (by rw [Tryd.results12]) (hx:=by simp (disch:=first|exact za|fail) only [go_sem,seval,-List.reduceReplicate,E,tr];rfl) (hR := ?_);simp (disch:=first|exact za|fail) only [go_sem,seval,-List.reduceReplicate,E,tr]
     exact none' (by rw [spl,if_neg c1,←hv,if_pos (.inr c3)])
   have d3:decide ((b.length:Int) < 13+(v:Int))=false:=decide_eq_false (by omega)
   have e1:(b.take (5+v)).drop 4=(b.drop 4).take (1+v):=by rw [List.drop_take,show 5+v - 4=1+v by omega]
   obtain⟨m,hm⟩ : ∃ m,m=(b.drop 4).take (1+v):=⟨_,rfl⟩
   have hml:m.length≤140737488353000:=by rw [hm,List.length_take,List.length_drop];omega
   rw [←hm] at e1
   have i1:(5+(v:Int)).toNat=5+v:=by omega
   have i2:(13+(v:Int)).toNat=13+v:=by omega
   have e2:(b.take (13+v)).drop (5+v)=(b.drop (5+v)).take 8:=by rw [List.drop_take,show 13+v - (5+v)=8 by omega]
   refine .q ?_;refine .open [] follows (by kernel_rfl) ?_;simp (disch:=first|exact za|fail) only [go_sem,seval,-List.reduceReplicate,E,d2,d3,i1,i2,e1,e2]
   refine CallD.still (fun R h=>zdY m (by omega) _ R h) ?_;simp (disch:=first|exact za|fail) only [go_sem,seval,-List.reduceReplicate,E,d2,d3,i1,i2,e1,e2,yp,zdX]
   by_cases c4:(sha m).take 8=(b.drop (5+v)).take 8
   rotate_left
   · have d4:decide ((sha m).take 8=(b.drop (5+v)).take 8)=false:=decide_eq_false c4
     simp (disch:=first|exact za|fail) only [go_sem,seval,-List.reduceReplicate,E,d4]
     refine .q ?_;refine .ifT (by simp (disch:=first|exact za|fail) only [go_sem,seval,-List.reduceReplicate]) ?_
     refine .q ?_;refine .text ?_;simp (disch:=first|exact za|fail) only [go_sem,seval,-List.reduceReplicate,E,f5,f2]
     refine .q ?_;refine .rt Tryd.func12 (by rw [Tryd.results12]) (hx:=by simp (disch:=first|exact za|fail) only [go_sem,seval,-List.reduceReplicate,E,tr];rfl) (hR := ?_);simp (disch:=first|exact za|fail) only [go_sem,seval,-List.reduceReplicate,E,tr]
     exact none' (by rw [spl,if_neg c1,←hv,if_neg (by omega),←hm,if_neg c4])
   have d4:decide ((sha m).take 8=(b.drop (5+v)).take 8)=true:=decide_eq_true c4
   have hs:spl b=some (nth b 4,(b.drop 5).take v,b.drop (13+v)):=by
    rw [spl,if_neg c1,←hv,if_neg (by omega),←hm,if_pos c4];rfl
   have e3:(b.take (5+v)).drop 5=(b.drop 5).take v:=by rw [List.drop_take,show 5+v - 5=v by omega]
   simp (disch:=first|exact za|fail) only [go_sem,seval,-List.reduceReplicate,E,d4]
   refine .q ?_;refine .ifF (by simp (disch:=first|exact za|fail) only [go_sem,seval,-List.reduceReplicate]) ?_
   refine .skip ?_
   obtain⟨k,hk⟩ : ∃ k,k=nth b 4:=⟨_,rfl⟩
   obtain⟨p,hp⟩ : ∃ p,p=(b.drop 5).take v:=⟨_,rfl⟩
   have hpl:p.length≤1048576:=by rw [hp,List.length_take,List.length_drop];omega
   rw [←hk,←hp] at hs
   rw [←hp] at e3
   have hsw:(PV.agg [.sl fl 4 (pl zy s.l),.sl fl 1 (pl bo s.gone)]).weak=stm s:=rfl
   have hbw:(PV.sl false 1 (pl b8 p)).weak=PV.sl false 1 (pl b8 p):=rfl
   obtain⟨V,hV⟩ : ∃ V,V=zkO s k p:=⟨_,rfl⟩
   have hpar : ∀ (B:Hp) (R:AV → Hp → Prop),R (.tup [.p (stm V.1),.p (bo V.2)]) B → ACall Tryd.prog G 40 [.p (stm s),.p (b8 k),.p (.sl false 1 (pl b8 p))] B R:=fun B R h=>zkP s k p ok hpl B R (by rw [hV] at h;exact h)
   obtain⟨C,hC⟩ : ∃ C,C=B.new (.cells [.p (.sl false 4 (pl zy V.1.l)),.p (.sl false 1 (pl bo V.1.gone))]):=⟨_,rfl⟩
   refine .q ?_;refine .cutH [1,2,5,6,8] [(9,.ptr B.n 0),(10,.p (bo V.2))] (C) (fun ihF => ?_) (fun env F => ?_)
   rotate_left 1
   simp (disch:=first|exact za|fail) only [go_sem,seval,-List.reduceReplicate,E] at F
   rotate_left 1
   · refine .openTr (.one 0 (.one 1 (.one 2 (.one 3 (.one 4 (.one 5 (.one 6 (.one 7 (.fork 8 12 (.lin [9,10,11,12,13,14]) (.lin [8,9,10,11,13,14])))))))))) [12,13] follows (by kernel_rfl) ?_
     refine zB (.p (.agg [.sl fl 4 (pl zy s.l),.sl fl 1 (pl bo s.gone)])) rfl rfl (by simp (disch:=first|exact za|fail) only [go_sem,seval,-List.reduceReplicate,E,f5]<;>rfl) rfl ?_
     refine zB (.p (.sl false 1 (pl b8 b))) rfl rfl (by simp (disch:=first|exact za|fail) only [go_sem,seval,-List.reduceReplicate,E]<;>rfl) rfl ?_
     refine zB (.ip 1 (pl b8 b) 4 0) rfl rfl (by simp (disch:=first|exact za|fail) only [go_sem,seval,-List.reduceReplicate,E]<;>rfl) rfl ?_
     refine zB (.p (b8 k)) rfl rfl (by simp (disch:=first|exact za|fail) only [go_sem,seval,-List.reduceReplicate,E,←hk]<;>rfl) rfl ?_
     refine zB (.p (.sl false 1 (pl b8 b))) rfl rfl (by simp (disch:=first|exact za|fail) only [go_sem,seval,-List.reduceReplicate,E]<;>rfl) rfl ?_
     refine zB (.p (i64 v)) rfl rfl (by simp (disch:=first|exact za|fail) only [go_sem,seval,-List.reduceReplicate,E]<;>rfl) rfl ?_
     refine zB (.p (i64 (5+v))) rfl rfl (by simp (disch:=first|exact za|fail) only [go_sem,seval,-List.reduceReplicate,E]<;>rfl) rfl ?_
     refine zB (.p (.sl false 1 (pl b8 p))) rfl rfl (by simp (disch:=first|exact za|fail) only [go_sem,seval,-List.reduceReplicate,E,i1,e3]<;>rfl) rfl ?_
     refine And.intro (zaE (.tup [.p (stm V.1),.p (bo V.2)]) rfl rfl (by simp (disch:=first|exact za|fail) only [go_sem,seval,-List.reduceReplicate,E,hsw,hbw]<;>rfl) (by rfl) rfl (fun R h=>hpar _ R h) ?_) ?_
     · refine zT [3,4] (by kernel_rfl) ?_
       simp (disch:=first|exact za|fail) only [go_sem,seval,-List.reduceReplicate,E]
       first | (refine ihF _ _ ?_ ?_) | (refine .z rfl ?_;refine ihF _ _ ?_ ?_) | (refine .z rfl ?_;refine .z rfl ?_;refine ihF _ _ ?_ ?_) | (refine .z rfl ?_;refine .z rfl ?_;refine .z rfl ?_;refine ihF _ _ ?_ ?_)
       · simp (disch:=first|exact za|fail) only [go_sem,seval,-List.reduceReplicate]<;>(repeat' (first | rfl | refine And.intro ?_ ?_))
       · exact hC.symm
     · refine zad (.ptr B.n 0) rfl rfl (by simp (disch:=first|exact za|fail) only [go_sem,seval,-List.reduceReplicate,E]<;>rfl) rfl ?_
       refine zT [4] (by kernel_rfl) ?_
       simp (disch:=first|exact za|fail) only [go_sem,seval,-List.reduceReplicate,E,hsw,hbw]
       refine CallD.still (fun R h=>hpar _ R h) ?_;simp (disch:=first|exact za|fail) only [go_sem,seval,-List.reduceReplicate,E,hsw]
       first | (refine ihF _ _ ?_ ?_) | (refine .z rfl ?_;refine ihF _ _ ?_ ?_) | (refine .z rfl ?_;refine .z rfl ?_;refine ihF _ _ ?_ ?_) | (refine .z rfl ?_;refine .z rfl ?_;refine .z rfl ?_;refine ihF _ _ ?_ ?_)
       · simp (disch:=first|exact za|fail) only [go_sem,seval,-List.reduceReplicate]<;>(repeat' (first | rfl | refine And.intro ?_ ?_))
       · exact hC.symm
   · subst hC
     cases hps:zY s k p with
     | none =>
      have hv2:V.2=false:=by rw [hV];exact zp0 hps
      have hl:ld s b=(s,b.length,false):=zeh hs hps
      have hfC : ∀ x c,c < B.n → (B.new x).f c=B.f c:=fun x c hc=>Hp.f_new_old _ _ _ hc
      have htC : ∀ x,(B.new x).trunc H.n=H:=fun x=>by rw [Hp.trunc_new _ _ _ (by omega)];exact tr
      have h1 : ∀ x,(B.new x).f (H.n+1)=some (.cells [.p (.sl true 4 []),.p (.sl true 1 [])]):=fun x=>(hfC x _ (by omega)).trans f2
      have h2 : ∀ x,(B.new x).f (H.n+2)=some (.cells [.p (.sl fl 4 (pl zy s.l)),.p (.sl fl 1 (pl bo s.gone))]):=fun x=>(hfC x _ (by omega)).trans f5
      obtain⟨C,hC⟩ : ∃ C,C=B.new (.cells [.p (.sl false 4 (pl zy V.1.l)),.p (.sl false 1 (pl bo V.1.gone))]):=⟨_,rfl⟩
      have g1:C.f (H.n+1)=some (.cells [.p (.sl true 4 []),.p (.sl true 1 [])]):=by rw [hC];exact h1 _
      have g2:C.f (H.n+2)=some (.cells [.p (.sl fl 4 (pl zy s.l)),.p (.sl fl 1 (pl bo s.gone))]):=by rw [hC];exact h2 _
      have tr':C.trunc H.n=H:=by rw [hC];exact htC _
      have hbel:Bel H.n C:=yc (by rw [tr'];exact (Hp.trunc_self H).symm) hbelH
      have hCn:H.n+3≤C.n:=by rw [hC];show _≤B.n+1;omega
      rw [←hC]
      refine .q ?_;refine .text ?_;simp (disch:=first|exact za|fail) only [go_sem,seval,-List.reduceReplicate,F,E,hv2]
      refine .q ?_;refine .ifT (by simp (disch:=first|exact za|fail) only [go_sem,seval,-List.reduceReplicate]) ?_
      refine .q ?_;refine .text ?_;simp (disch:=first|exact za|fail) only [go_sem,seval,-List.reduceReplicate,F,E,g1,g2]
      refine .q ?_;refine .rt Tryd.func12 (by rw [Tryd.results12]) (hx:=by simp (disch:=first|exact za|fail) only [go_sem,seval,-List.reduceReplicate,F,E,tr'];rfl) (hR := ?_);simp (disch:=first|exact za|fail) only [go_sem,seval,-List.reduceReplicate,F,E,tr']
      exact stop hl
     | some s' =>
      have hVV:V=(s',true):=by rw [hV];exact zpZ hps
      have hl:ld s b=ld s' (b.drop (13+v)):=zcV hs hps
      have hok:=ze7 hps ok
      have h9 : ∀ x,(B.new x).f (H.n+2)=some (.cells [.p (.sl fl 4 (pl zy s.l)),.p (.sl fl 1 (pl bo s.gone))]):=fun x=>by rw [Hp.f_new_old _ _ _ (by omega)];exact f5
      subst hVV
      dsimp only
      refine .q ?_;refine .text ?_;simp (disch:=first|exact za|fail) only [go_sem,seval,-List.reduceReplicate,F,E]
      refine .q ?_;refine .ifF (by simp (disch:=first|exact za|fail) only [go_sem,seval,-List.reduceReplicate]) ?_
      refine .skip ?_
      refine .q ?_;refine .text ?_;simp (disch:=first|exact za|fail) only [go_sem,seval,-List.reduceReplicate,F,E,h9]
      refine .q ?_;refine .text ?_;simp (disch:=first|exact za|fail) only [go_sem,seval,-List.reduceReplicate,F,E]
      have hm:d.length - (n+13+v) < d.length - n:=by omega
      have hdr:d.drop (n+13+v)=b.drop (13+v):=by rw [hb,List.drop_drop,Nat.add_assoc]
      have hnv:((n+13+v:Nat):Int)=(n:Int)+13+(v:Int):=by omega
      first | (refine ihE (⟨(B.new (.cells [.p (.sl false 4 (pl zy s'.l)),.p (.sl false 1 (pl bo s'.gone))])).set (H.n+2) (.cells [.p (.sl false 4 (pl zy s'.l)),.p (.sl false 1 (pl bo s'.gone))]),s',false,n+13+v⟩) _ _ ?_ ?_ (ze9 hQ0 hok (by rw [hdr,←hb];exact hl) (by omega) _) ?_) | (refine .z rfl ?_;refine ihE (⟨(B.new (.cells [.p (.sl false 4 (pl zy s'.l)),.p (.sl false 1 (pl bo s'.gone))])).set (H.n+2) (.cells [.p (.sl false 4 (pl zy s'.l)),.p (.sl false 1 (pl bo s'.gone))]),s',false,n+13+v⟩) _ _ ?_ ?_ (ze9 hQ0 hok (by rw [hdr,←hb];exact hl) (by omega) _) ?_) | (refine .z rfl ?_;refine .z rfl ?_;refine ihE (⟨(B.new (.cells [.p (.sl false 4 (pl zy s'.l)),.p (.sl false 1 (pl bo s'.gone))])).set (H.n+2) (.cells [.p (.sl false 4 (pl zy s'.l)),.p (.sl false 1 (pl bo s'.gone))]),s',false,n+13+v⟩) _ _ ?_ ?_ (ze9 hQ0 hok (by rw [hdr,←hb];exact hl) (by omega) _) ?_) | (refine .z rfl ?_;refine .z rfl ?_;refine .z rfl ?_;refine ihE (⟨(B.new (.cells [.p (.sl false 4 (pl zy s'.l)),.p (.sl false 1 (pl bo s'.gone))])).set (H.n+2) (.cells [.p (.sl false 4 (pl zy s'.l)),.p (.sl false 1 (pl bo s'.gone))]),s',false,n+13+v⟩) _ _ ?_ ?_ (ze9 hQ0 hok (by rw [hdr,←hb];exact hl) (by omega) _) ?_)
      rotate_left 1
      · simp (disch:=first|exact za|fail) only [go_sem,seval,-List.reduceReplicate,E,F,hnv]<;>(repeat' (first | rfl | refine And.intro ?_ ?_))
      · first | rfl | (simp (disch:=first|exact za|fail) only [go_sem,seval,-List.reduceReplicate,E,F,hnv]<;>(try rfl))
      · exact hm
end walks
end Go.Proofs.YtdpfkanfahchjaaDoor

/-
  The log of readings: Append and Retract,by the reference;equal streams;readings of triples.
-/
namespace Go.Proofs.YtdpfkanfahchjaaDoor
open Go Go.AL

theorem zwk {cs:List By} (h : ∀ c∈cs,c.length≤100000) : ∀ i,(zJ (cs.take i)).length≤100004*cs.length:=fun i=>by
 have key : ∀ l:List By,(∀ c∈l,c.length≤100000) → (l.map List.length).sum≤100000*l.length:=by
  intro l
  induction l with
  | nil=>intro _;exact Nat.le_refl _
  | cons x l ih =>
   intro h
   have h1:=ih fun c hc=>h c (by simp [hc])
   have h2:=h x (by simp)
   simp only [List.map_cons,List.sum_cons,List.length_cons]
   omega
 have:=key (cs.take i) fun c hc=>h c (List.mem_of_mem_take hc)
 rw [zel]
 have h2:(cs.take i).length≤cs.length:=by rw [List.length_take];omega
 omega
section walks
variable {G:Globs}
set_option maxHeartbeats 4000000 in
set_option maxRecDepth 20000 in
theorem ziz (d:By) (s0:Int) (l:List Rdg) (hd:d.length≤1000000000) (hl:l.length≤100000) (H:Hp) (R:AV → Hp → Prop)
 (h:R (.tup [.p (sto (zbl (d,s0) l).1.1 (zbl (d,s0) l).1.2),.p (i64 (zbl (d,s0) l).2)]) H):ACall Tryd.prog G 14 [.p (sto d s0),.p (.sl false 4 (pl zy l))] H R:=by
 unfold zbl at h
 have hok:=zhk (d:=d)
 have hlN:=zhl (d:=d)
 refine ACall.of_run (raw:=[]) Tryd.func14 rfl Tryd.ntmps14 (by simp) fun hbel => ?_
 refine .q ?_;refine .text ?_;simp (disch:=first|exact za|fail) only [go_sem,seval,-List.reduceReplicate]
 by_cases c1:l.length < 1
 · have d1:decide ((l.length:Int) < 1)=true:=decide_eq_true (by omega)
   rw [if_pos (.inl c1)] at h
   refine .q ?_;refine .text ?_;simp (disch:=first|exact za|fail) only [go_sem,seval,-List.reduceReplicate,d1]
   refine .q ?_;refine .ifT (by simp (disch:=first|exact za|fail) only [go_sem,seval,-List.reduceReplicate]) ?_
   refine .q ?_;refine .text ?_;simp (disch:=first|exact za|fail) only [go_sem,seval,-List.reduceReplicate]
   refine .q ?_;refine .rt Tryd.func14 (by rw [Tryd.results14]) (hR := ?_);simp (disch:=first|exact za|fail) only [go_sem,seval,-List.reduceReplicate]
   exact h
 have d1:decide ((l.length:Int) < 1)=false:=decide_eq_false (by omega)
 by_cases c2:4096 < l.length
 · have d2:decide ((4096:Int) < (l.length:Int))=true:=decide_eq_true (by omega)
   rw [if_pos (.inr (.inl c2))] at h
   refine .q ?_;refine .text ?_;simp (disch:=first|exact za|fail) only [go_sem,seval,-List.reduceReplicate,d1,d2]
   refine .q ?_;refine .ifT (by simp (disch:=first|exact za|fail) only [go_sem,seval,-List.reduceReplicate]) ?_
   refine .q ?_;refine .text ?_;simp (disch:=first|exact za|fail) only [go_sem,seval,-List.reduceReplicate]
   refine .q ?_;refine .rt Tryd.func14 (by rw [Tryd.results14]) (hR := ?_);simp (disch:=first|exact za|fail) only [go_sem,seval,-List.reduceReplicate]
   exact h
 have d2:decide ((4096:Int) < (l.length:Int))=false:=decide_eq_false (by omega)
 refine .q ?_;refine .text ?_;simp (disch:=first|exact za|fail) only [go_sem,seval,-List.reduceReplicate,d1,d2]
 refine .q ?_;refine .ifF (by simp (disch:=first|exact za|fail) only [go_sem,seval,-List.reduceReplicate]) ?_
 refine .skip ?_
 refine .q ?_;refine .text ?_;simp (disch:=first|exact za|fail) only [go_sem,seval,-List.reduceReplicate]
 have hag : ∀ r,(zy r).aggOf 0 4=zy r:=fun _=>rfl
 have hrw : ∀ r,(zy r).weak=zy r:=fun _=>rfl
 refine .q ?_;refine .loopE [1,2,4] (fun i=>[(6,.p (i64 i))]) (fun i=>[]) (fun i => ∀ j,j < i → vB (nth l j)=true) (0) (l.length) (by omega) ?_ (by first | rfl | (simp (disch:=first|exact za|fail) only [go_sem,seval,-List.reduceReplicate]<;>rfl)) ?_ ?_ ?_
 · simp (disch:=first|exact za|fail) only [go_sem,seval,-List.reduceReplicate]<;>(repeat' (first | rfl | refine And.intro ?_ ?_))
 rotate_left 1
 intro env E hQ;simp (disch:=first|exact za|fail) only [go_sem,seval,-List.reduceReplicate] at E
 rotate_left 1
 intro i env hi0 hi E hQ ihE;simp (disch:=first|exact za|fail) only [go_sem,seval,-List.reduceReplicate] at E
 rotate_left 1
 · intro j hj;omega
 rotate_left
 · refine .q ?_;refine .text ?_;simp (disch:=first|exact za|fail) only [go_sem,seval,-List.reduceReplicate,E]
   refine .q ?_;refine .ifT (by simp (disch:=first|exact za|fail) only [go_sem,seval,-List.reduceReplicate]) ?_
   refine .q ?_;refine .text ?_;simp (disch:=first|exact za|fail) only [go_sem,seval,-List.reduceReplicate,E]
   refine CallK.of (fun R h=>zeB (nth l i) _ R h) ?_;simp (disch:=first|exact za|fail) only [go_sem,seval,-List.reduceReplicate,E]
   cases hv:vB (nth l i) with
   | true =>
    simp (disch:=first|exact za|fail) only [go_sem,seval,-List.reduceReplicate,hv]
    refine .q ?_;refine .ifF (by simp (disch:=first|exact za|fail) only [go_sem,seval,-List.reduceReplicate]) ?_
    refine .skip ?_
    refine .q ?_;refine .text ?_;simp (disch:=first|exact za|fail) only [go_sem,seval,-List.reduceReplicate,E]
    first | (refine ihE _ _ ?_ (zm hQ hv) ?_) | (refine .z rfl ?_;refine ihE _ _ ?_ (zm hQ hv) ?_) | (refine .z rfl ?_;refine .z rfl ?_;refine ihE _ _ ?_ (zm hQ hv) ?_) | (refine .z rfl ?_;refine .z rfl ?_;refine .z rfl ?_;refine ihE _ _ ?_ (zm hQ hv) ?_)
    · simp (disch:=first|exact za|fail) only [go_sem,seval,-List.reduceReplicate,E]<;>(repeat' (first | rfl | refine And.intro ?_ ?_))
    · first | rfl | (simp (disch:=first|exact za|fail) only [go_sem,seval,-List.reduceReplicate,E]<;>(try rfl))
   | false =>
    have hbad : ¬ ∀ r∈l,vR r:=fun e=>by
     have:=zcI.2 (e _ (zah hi))
     rw [hv] at this;cases this
    rw [if_pos (.inr (.inr hbad))] at h
    simp (disch:=first|exact za|fail) only [go_sem,seval,-List.reduceReplicate,hv]
    refine .q ?_;refine .ifT (by simp (disch:=first|exact za|fail) only [go_sem,seval,-List.reduceReplicate]) ?_
    refine .q ?_;refine .text ?_;simp (disch:=first|exact za|fail) only [go_sem,seval,-List.reduceReplicate,E]
    refine .q ?_;refine .rt Tryd.func14 (by rw [Tryd.results14]) (hx:=by simp (disch:=first|exact za|fail) only [go_sem,seval,-List.reduceReplicate,E];rfl) (hR := ?_);simp (disch:=first|exact za|fail) only [go_sem,seval,-List.reduceReplicate,E]
    exact h
 · have c3 : ∀ r∈l,vR r:=fun r hr=>by
    obtain⟨j,hj,rfl⟩:=List.mem_iff_getElem.1 hr
    have:=hQ j hj
    rw [show nth l j=l[j] by simp [nth,hj]] at this
    exact zcI.1 this
   have hne : ¬ (l.length < 1 ∨ 4096 < l.length ∨ ¬ ∀ r∈l,vR r):=fun e=>by
    rcases e with e | e | e
    · exact c1 e
    · exact c2 e
    · exact e c3
   rw [if_neg hne] at h
   refine .q ?_;refine .text ?_;simp (disch:=first|exact za|fail) only [go_sem,seval,-List.reduceReplicate,E]
   refine .q ?_;refine .ifF (by simp (disch:=first|exact za|fail) only [go_sem,seval,-List.reduceReplicate]) ?_
   refine .q ?_;refine .text ?_;simp (disch:=first|exact za|fail) only [go_sem,seval,-List.reduceReplicate,E]
   refine CallK.of (fun R h=>zdr d s0 (by omega) _ R h) ?_;simp (disch:=first|exact za|fail) only [go_sem,seval,-List.reduceReplicate,E]
   obtain⟨S,hS⟩ : ∃ S,S=lS d:=⟨_,rfl⟩
   obtain⟨N,hN⟩ : ∃ N,N=lN d:=⟨_,rfl⟩
   dsimp only at h
   rw [←hS] at h hok ⊢
   rw [←hN] at h hlN ⊢
   have hSl:=hok.2
   by_cases c4:65536 < S.l.length+l.length
   · have d4:decide ((65536:Int) < (S.l.length:Int)+(l.length:Int))=true:=decide_eq_true (by omega)
     rw [if_pos c4] at h
     refine .q ?_;refine .text ?_;simp (disch:=first|exact za|fail) only [go_sem,seval,-List.reduceReplicate,E,d4]
     refine .q ?_;refine .ifT (by simp (disch:=first|exact za|fail) only [go_sem,seval,-List.reduceReplicate]) ?_
     refine .q ?_;refine .text ?_;simp (disch:=first|exact za|fail) only [go_sem,seval,-List.reduceReplicate,E]
     refine .q ?_;refine .rt Tryd.func14 (by rw [Tryd.results14]) (hx:=by simp (disch:=first|exact za|fail) only [go_sem,seval,-List.reduceReplicate,E];rfl) (hR := ?_);simp (disch:=first|exact za|fail) only [go_sem,seval,-List.reduceReplicate,E]
     exact h
   have d4:decide ((65536:Int) < (S.l.length:Int)+(l.length:Int))=false:=decide_eq_false (by omega)
   rw [if_neg c4] at h
   refine .q ?_;refine .text ?_;simp (disch:=first|exact za|fail) only [go_sem,seval,-List.reduceReplicate,E,d4]
   refine .q ?_;refine .ifF (by simp (disch:=first|exact za|fail) only [go_sem,seval,-List.reduceReplicate]) ?_
   refine .skip ?_
   have hpc:=ziv (l:=l)
   obtain⟨p,hp⟩ : ∃ p,p=pcl l:=⟨_,rfl⟩
   rw [←hp] at h hpc
   have hrl:(rcd 1#8 p).length=13+p.length:=zaf
   obtain⟨q,hq⟩ : ∃ q,q=rcd 1#8 p:=⟨_,rfl⟩
   rw [←hq] at h hrl
   obtain⟨cs,hcs⟩ : ∃ cs,cs=pkc l 4:=⟨_,rfl⟩
   have hpk:cs.length=4:=by rw [hcs];exact zaZ
   have hpl : ∀ c∈cs,c.length≤100000:=fun c hc=>by rw [hcs] at hc;have:=ziu c hc;omega
   have hrec : ∀ (B:Hp) (R:AV → Hp → Prop),R (.p (.sl false 1 (pl b8 q))) B → ACall Tryd.prog G 51 [.p (b8 1#8),.p (.sl false 1 (pl b8 p))] B R:=fun B R h=>zdZ 1#8 p (by omega) B R (by rw [hq] at h;exact h)
   have hpw:zW 2 l.length++zJ cs=p:=by rw [hp,pcl,zmG,hcs]
   have h44:cs.take 4=cs:=List.take_of_length_le (by omega)
   have hb : ∀ i,(zW 2 l.length++zJ (cs.take i)).length≤2000000:=fun i=>by
    have:=zwk hpl i
    rw [List.length_append,zv];omega
   have w0:zW 2 l.length++zJ (cs.take 0)=zW 2 l.length:=by simp [zJ]
   refine .q ?_;refine .text ?_;simp (disch:=first|exact za|fail) only [go_sem,seval,-List.reduceReplicate,E]
   refine CallK.of (fun R h=>zmL l (by omega) _ R h) ?_;simp (disch:=first|exact za|fail) only [go_sem,seval,-List.reduceReplicate,E,←hcs]
   refine .q ?_;refine .text ?_;simp (disch:=first|exact za|fail) only [go_sem,seval,-List.reduceReplicate,E]
   refine CallK.of (fun R h=>zeC l.length 2 (by decide) _ R h) ?_;simp (disch:=first|exact za|fail) only [go_sem,seval,-List.reduceReplicate,E]
   refine .q ?_;refine .text ?_;simp (disch:=first|exact za|fail) only [go_sem,seval,-List.reduceReplicate,E]
   refine .q ?_;refine .loopE [2,4,8,10] (fun i=>[(11,.sl (H.n+4) (2+2*i) 1 (pl b8 (zW 2 l.length++zJ (cs.take i)))),(12,.p (i64 i))]) (fun i=>[(H.n+4,.tail (2+2*i))]) (fun i=>True) (0) (4) (by omega) ?_ (by first | rfl | (simp (disch:=first|exact za|fail) only [go_sem,seval,-List.reduceReplicate,w0,E]<;>rfl)) ?_ ?_ ?_
   · simp (disch:=first|exact za|fail) only [go_sem,seval,-List.reduceReplicate,w0,E]<;>(repeat' (first | rfl | refine And.intro ?_ ?_))
   · exact trivial
   intro env F hQ;simp (disch:=first|exact za|fail) only [go_sem,seval,-List.reduceReplicate,w0,E] at F
   rotate_left 1
   intro i env hi0 hi F hQ ihF;simp (disch:=first|exact za|fail) only [go_sem,seval,-List.reduceReplicate,w0,E] at F
   rotate_left 1
   · refine .q ?_;refine .text ?_;simp (disch:=first|exact za|fail) only [go_sem,seval,-List.reduceReplicate,F]
     refine .q ?_;refine .ifF (by simp (disch:=first|exact za|fail) only [go_sem,seval,-List.reduceReplicate]) ?_
     refine .q ?_;refine .open [5] follows (by kernel_rfl) ?_;simp (disch:=first|exact za|fail) only [go_sem,seval,-List.reduceReplicate,F,E,h44,hpw]
     refine CallD.still (fun R h=>hrec _ R h) ?_;simp (disch:=first|exact za|fail) only [go_sem,seval,-List.reduceReplicate,F,E]
     refine CallD.still (fun R h=>zeD d q s0 N hlN (by omega) _ R h) ?_;simp (disch:=first|exact za|fail) only [go_sem,seval,-List.reduceReplicate,F,E]
     refine .q ?_;refine .rt Tryd.func14 (by rw [Tryd.results14]) (hx:=by simp (disch:=first|exact za|fail) only [go_sem,seval,-List.reduceReplicate,F,E];rfl) (hR := ?_);simp (disch:=first|exact za|fail) only [go_sem,seval,-List.reduceReplicate,F,E]
     exact h
   · have hc:=hpl _ (zah (by omega:i < cs.length))
     obtain⟨c,hcc⟩ : ∃ c,c=nth cs i:=⟨_,rfl⟩
     have hs:=zf9 (by omega:i < cs.length)
     rw [←hcc] at hc hs
     have hbi:=hb i
     obtain⟨X,hX⟩ : ∃ X,X=zW 2 l.length++zJ (cs.take i):=⟨_,rfl⟩
     have hXs:X++zW 4 c.length++c=zW 2 l.length++zJ (cs.take (i+1)):=by rw [hX,←hs];simp
     have h4:(zW 4 c.length).length=4:=zv
     rw [←hX] at hbi
     refine .q ?_;refine .text ?_;simp (disch:=first|exact za|fail) only [go_sem,seval,-List.reduceReplicate,F]
     refine .q ?_;refine .ifT (by simp (disch:=first|exact za|fail) only [go_sem,seval,-List.reduceReplicate]) ?_
     refine .q ?_;refine .text ?_;simp (disch:=first|exact za|fail) only [go_sem,seval,-List.reduceReplicate,F,←hcc,zb8]
     refine CallK.of (fun R h=>zdW c.length 4 (by decide) _ R h) ?_;simp (disch:=first|exact za|fail) only [go_sem,seval,-List.reduceReplicate,F,←hcc,zb8,←hX,h4]
     refine .q ?_;refine .text ?_;simp (disch:=first|exact za|fail) only [go_sem,seval,-List.reduceReplicate,F,←hcc,zb8,h4,hXs]
     refine .q ?_;refine .text ?_;simp (disch:=first|exact za|fail) only [go_sem,seval,-List.reduceReplicate,F]
     first | (refine ihF _ _ ?_ trivial ?_) | (refine .z rfl ?_;refine ihF _ _ ?_ trivial ?_) | (refine .z rfl ?_;refine .z rfl ?_;refine ihF _ _ ?_ trivial ?_) | (refine .z rfl ?_;refine .z rfl ?_;refine .z rfl ?_;refine ihF _ _ ?_ trivial ?_)
     · simp (disch:=first|exact za|fail) only [go_sem,seval,-List.reduceReplicate,F,E]<;>(repeat' (first | rfl | refine And.intro ?_ ?_))
     · first | rfl | (simp (disch:=first|exact za|fail) only [go_sem,seval,-List.reduceReplicate,F,E]<;>(try rfl))
set_option maxHeartbeats 4000000 in
set_option maxRecDepth 20000 in
theorem zeV (d:By) (s0 i:Int) (hd:d.length≤1000000000) (H:Hp) (R:AV → Hp → Prop)
 (h:R (.tup [.p (sto (rtV (d,s0) i).1.1 (rtV (d,s0) i).1.2),.p (i64 (rtV (d,s0) i).2)]) H):ACall Tryd.prog G 16 [.p (sto d s0),.p (i64 i)] H R:=by
 unfold rtV at h
 have hok:=zhk (d:=d)
 have hlN:=zhl (d:=d)
 refine ACall.of_run (raw:=[]) Tryd.func16 rfl Tryd.ntmps16 (by simp) fun hbel => ?_
 refine .q ?_;refine .text ?_;simp (disch:=first|exact za|fail) only [go_sem,seval,-List.reduceReplicate]
 refine .q ?_;refine .text ?_;simp (disch:=first|exact za|fail) only [go_sem,seval,-List.reduceReplicate]
 refine CallK.of (fun R h=>zdr d s0 (by omega) _ R h) ?_;simp (disch:=first|exact za|fail) only [go_sem,seval,-List.reduceReplicate]
 obtain⟨S,hS⟩ : ∃ S,S=lS d:=⟨_,rfl⟩
 obtain⟨N,hN⟩ : ∃ N,N=lN d:=⟨_,rfl⟩
 dsimp only at h
 rw [←hS] at h hok ⊢
 rw [←hN] at h hlN ⊢
 have hSl:=hok.2
 obtain⟨V,hV⟩ : ∃ V,V=yP S i:=⟨_,rfl⟩
 have hret : ∀ (B:Hp) (R:AV → Hp → Prop),R (.tup [.p (stm V.1),.p (i64 V.2)]) B → ACall Tryd.prog G 33 [.p (stm S),.p (i64 i)] B R:=fun B R h=>zc4 S i hok.2 hok.1 B R (by rw [hV] at h;exact h)
 rw [←hV] at h
 refine .q ?_;refine .text ?_;simp (disch:=first|exact za|fail) only [go_sem,seval,-List.reduceReplicate]
 refine CallK.of (fun R h=>hret _ R h) ?_;simp (disch:=first|exact za|fail) only [go_sem,seval,-List.reduceReplicate]
 by_cases c1:V.2=0
 rotate_left
 · have d1:(V.2 != 0)=true:=by simpa using c1
   rw [if_pos c1] at h
   refine .q ?_;refine .text ?_;simp (disch:=first|exact za|fail) only [go_sem,seval,-List.reduceReplicate,d1]
   refine .q ?_;refine .ifT (by simp (disch:=first|exact za|fail) only [go_sem,seval,-List.reduceReplicate]) ?_
   refine .q ?_;refine .text ?_;simp (disch:=first|exact za|fail) only [go_sem,seval,-List.reduceReplicate]
   refine .q ?_;refine .rt Tryd.func16 (by rw [Tryd.results16]) (hR := ?_);simp (disch:=first|exact za|fail) only [go_sem,seval,-List.reduceReplicate]
   exact h
 have d1:(V.2 != 0)=false:=by simpa using c1
 rw [if_neg (fun e=>e c1)] at h
 have hk : ∃ k:Nat,i=k:=by
  refine⟨i.toNat,?_⟩
  unfold yP at hV
  by_cases e:i < 0 ∨ (S.l.length:Int)≤i
  · rw [if_pos e] at hV;rw [hV] at c1;exact absurd c1 (by decide)
  · omega
 obtain⟨k,rfl⟩:=hk
 rw [Int.toNat_natCast] at h
 obtain⟨q,hq⟩ : ∃ q,q=rcd 2#8 (zW 4 k):=⟨_,rfl⟩
 have hrl:q.length=17:=by rw [hq,zaf,zv]
 rw [←hq] at h
 have hrec : ∀ (B:Hp) (R:AV → Hp → Prop),R (.p (.sl false 1 (pl b8 q))) B → ACall Tryd.prog G 51 [.p (b8 2#8),.p (.sl false 1 (pl b8 (zW 4 k)))] B R:=fun B R h=>zdZ 2#8 (zW 4 k) (by rw [zv];decide) B R (by rw [hq] at h;exact h)
 refine .q ?_;refine .text ?_;simp (disch:=first|exact za|fail) only [go_sem,seval,-List.reduceReplicate,d1]
 refine .q ?_;refine .ifF (by simp (disch:=first|exact za|fail) only [go_sem,seval,-List.reduceReplicate]) ?_
 refine .skip ?_
 refine .q ?_;refine .open [6] follows (by kernel_rfl) ?_;simp (disch:=first|exact za|fail) only [go_sem,seval,-List.reduceReplicate]
 refine CallD.still (fun R h=>zdW k 4 (by decide) _ R h) ?_;simp (disch:=first|exact za|fail) only [go_sem,seval,-List.reduceReplicate]
 refine CallD.still (fun R h=>hrec _ R h) ?_;simp (disch:=first|exact za|fail) only [go_sem,seval,-List.reduceReplicate]
 refine CallD.still (fun R h=>zeD d q s0 N hlN (by omega) _ R h) ?_;simp (disch:=first|exact za|fail) only [go_sem,seval,-List.reduceReplicate]
 refine .q ?_;refine .rt Tryd.func16 (by rw [Tryd.results16]) (hR := ?_);simp (disch:=first|exact za|fail) only [go_sem,seval,-List.reduceReplicate]
 exact h
end walks
end Go.Proofs.YtdpfkanfahchjaaDoor

/-
  The log of readings: readings compared;equal streams;readings of triples.
-/
namespace Go.Proofs.YtdpfkanfahchjaaDoor
open Go Go.AL

def zp1 (P:Program) (t:TypeId) (k:IntKind) (n:Nat):Bool :=
  match P.underlying t with
  | some (.struct fs) => fs.toList.length == n && P.cellsOf t == n && fs.all (·.name != "_") && ((List.range n).all fun i => match fs.toList[i]? with | some f => f.offset == i && P.cellsOf f.type == 1 && (match P.underlying f.type with | some (.int k') => k' == k | _ => false) | none => false) && P.keyTypeAt 64 t && !P.eqGuardType P.depth t && zN P t
  | _=>false
theorem zgf {α β:Type} (g:β → Option (List α)) (h:β → α) : ∀ (l:List β),(∀ i∈l,g i=some [h i]) → (l.mapM g).map List.flatten=some (l.map h)
 | [],_=>rfl
 | i :: l,hg=>by
  have ih:=zgf g h l (fun j hj=>hg j (by simp [hj]))
  simp only [List.mapM_cons,hg i (by simp)]
  cases hm:l.mapM g with
  | none=>simp [hm] at ih
  | some ls =>
   simp only [hm,Option.map_some,Option.some.injEq] at ih
   simp [ih]
theorem zgg {P:Program} {t:TypeId} {k:IntKind} (l:List Int) (hw : ∀ x∈l,(Lit.int k x).wf=true) (h:zp1 P t k l.length=true) :
 P.keyLits 64 t (l.map fun x=>Value.int k x)=some (l.map fun x=>Lit.int k x):=by
 unfold zp1 at h
 split at h
 case h_2=>cases h
 rename_i fs hu
 simp only [Bool.and_eq_true,beq_iff_eq] at h
 obtain⟨⟨⟨⟨⟨⟨h1,h2⟩,h3⟩,h4⟩,_⟩,_⟩,_⟩:=h
 rw [List.all_eq_true] at h4
 have key : ∀ i,i < l.length → ∃ f,fs.toList[i]? = some f∧f.offset=i∧P.cellsOf f.type=1∧P.underlying f.type=some (.int k):=fun i hi=>by
  have:=h4 i (List.mem_range.2 hi)
  split at this
  case h_2=>cases this
  rename_i f hf
  simp only [Bool.and_eq_true,beq_iff_eq] at this
  obtain⟨⟨a,b⟩,c⟩:=this
  split at c
  case h_2=>cases c
  rename_i k' hk
  have hk':k'=k:=by simpa using c
  subst hk'
  exact⟨f,hf,a,b,hk⟩
 unfold Program.keyLits
 simp only [hu]
 rw [if_pos ⟨by rw [List.length_map,h2],h3⟩]
 have hm:=zgf (fun f=>P.keyLits 63 f.type (((l.map fun x=>Value.int k x).drop f.offset).take (P.cellsOf f.type))) (fun f=>Lit.int k (nth l f.offset)) fs.toList (fun f hf=>by
  obtain⟨i,hi,e⟩:=List.mem_iff_getElem.1 hf
  obtain⟨g,hg,a,b,c⟩:=key i (by omega)
  rw [List.getElem?_eq_getElem hi,e] at hg
  cases hg
  have hi':i < l.length:=by omega
  have e1:((l.map fun x=>Value.int k x).drop i).take 1=[Value.int k (nth l i)]:=by
   rw [List.take_one]
   simp [nth,hi']
  simp only [a,b,e1]
  unfold Program.keyLits
  have hx:(Lit.int k (nth l i)).wf=true:=hw _ (zah hi')
  simp only [c]
  rw [if_pos ⟨trivial,hx⟩])
 rw [hm]
 congr 1
 refine List.ext_getElem? fun i => ?_
 by_cases hi:i < l.length
 · obtain⟨f,hf,a,_,_⟩:=key i hi
   rw [List.getElem?_map,hf,List.getElem?_map,Option.map_some,a]
   simp [hi,nth]
 · rw [List.getElem?_eq_none (by rw [List.length_map];omega),List.getElem?_eq_none (by rw [List.length_map];omega)]
theorem zty {P:Program} {t:TypeId} {k:IntKind} (a b:List Int) (ha : ∀ x∈a,(Lit.int k x).wf=true) (hb : ∀ x∈b,(Lit.int k x).wf=true) (h:zp1 P t k a.length=true) (hl:b.length=a.length) :
 zcq P t (a.map fun x=>PV.s (.int k x)) (b.map fun x=>PV.s (.int k x))=some (decide (a=b)):=by
 have hb':zp1 P t k b.length=true:=by rw [hl];exact h
 have h2:=h
 unfold zp1 at h2
 split at h2
 case h_2=>cases h2
 simp only [Bool.and_eq_true,Bool.not_eq_true'] at h2
 obtain⟨⟨⟨_,h5⟩,h6⟩,h7⟩:=h2
 unfold zcq
 rw [zdg,zdg,if_pos (by simp [h5,h6,h7])]
 simp only [zgg a ha h,zgg b hb hb',Option.some.injEq,decide_eq_decide]
 constructor
 · intro e
   refine zeY hl.symm fun i hi' => ?_
   have:=congrArg (fun l:List Lit=>l[i]?) e
   simp only [List.getElem?_map,zeX hi',zeX (show i < b.length by omega),Option.map_some,Option.some.injEq,Lit.int.injEq,true_and] at this
   exact this
 · intro e;rw [e]
theorem zwl:zp1 Tryd.prog 24 .i64 4=true:=by kernel_rfl
theorem zwm {x:Int} (h : -9223372036854775808≤x∧x≤9223372036854775807):(Lit.int .i64 x).wf=true:=by
 simp only [Lit.wf,Bool.and_eq_true,decide_eq_true_eq]
 exact⟨by show (-9223372036854775808:Int)≤_;omega,by show _≤(9223372036854775807:Int);omega⟩
theorem neR {a b:Rdg} (ha:vR a) (hb:vR b):zo Tryd.prog .neq 24 (.p (zy a)) (.p (zy b))=some (.p (bo (!decide (a=b)))):=by
 have w : ∀ r,vR r → ∀ x∈([r.who,r.whn,r.knd,r.val]:List Int),(Lit.int .i64 x).wf=true:=fun r hr x hx=>by
  obtain⟨⟨a1,a2⟩,⟨b1,b2⟩,⟨c1,c2⟩,⟨d1,d2⟩⟩:=hr
  simp only [List.mem_cons,List.not_mem_nil,or_false] at hx
  rcases hx with rfl | rfl | rfl | rfl<;>exact zwm ⟨by omega,by omega⟩
 have h:=zty (P:=Tryd.prog) (t:=24) (k := .i64) [a.who,a.whn,a.knd,a.val] [b.who,b.whn,b.knd,b.val] (w a ha) (w b hb) zwl rfl
 have f2 : ∀ P t xs ys,zo P .neq t (.p (.agg xs)) (.p (.agg ys))=(zcq P t xs ys).map fun r => .p (.s (.bool !r)):=fun _ _ _ _=>rfl
 show zo _ _ _ (.p (.agg (rdL a))) (.p (.agg (rdL b)))=_
 rw [f2]
 have e:([a.who,a.whn,a.knd,a.val]=[b.who,b.whn,b.knd,b.val]) ↔ a=b:=by
  obtain⟨a1,a2,a3,a4⟩:=a
  obtain⟨b1,b2,b3,b4⟩:=b
  simp
 have h':zcq Tryd.prog 24 (rdL a) (rdL b)=some (decide (a=b)):=by
  rw [←decide_eq_decide.2 e];exact h
 rw [h']
 rfl
abbrev T3:=BitVec 8 × BitVec 8 × BitVec 8
def tri (t:T3):PV := .agg [b8 t.1,b8 t.2.1,b8 t.2.2]
def rdt (t:T3):Rdg:=rd3 t.1 t.2.1 t.2.2
def rds (l:List T3):List Rdg:=(l.take 20).map rdt
theorem zn7 {l:List T3}:(rds l).length=min 20 l.length:=by simp [rds]
section walks
variable {G:Globs}
set_option maxHeartbeats 4000000 in
theorem zm5 (a b:Strm) (ha : ∀ r∈a.l,vR r) (hb : ∀ r∈b.l,vR r) (hl:a.l.length≤100000000) (hg:a.gone.length≤100000000) (H:Hp) (R:AV → Hp → Prop) (h:R (.p (bo (decide (a=b)))) H):ACall Tryd.prog G 17 [.p (stm a),.p (stm b)] H R:=by
 have hag : ∀ r,(zy r).aggOf 0 4=zy r:=fun _=>rfl
 have bad:a≠b → R (.p (bo false)) H:=fun e=>by rw [decide_eq_false e] at h;exact h
 refine ACall.of_run (raw:=[]) Tryd.func17 rfl Tryd.ntmps17 (by simp) fun hbel => ?_
 refine .q ?_;refine .text ?_;simp (disch:=first|exact za|fail) only [go_sem,seval,-List.reduceReplicate]
 by_cases c1:a.l.length=b.l.length
 rotate_left
 · have d1:((a.l.length:Int) != (b.l.length:Int))=true:=bne_iff_ne.2 (by omega)
   refine .q ?_;refine .text ?_;simp (disch:=first|exact za|fail) only [go_sem,seval,-List.reduceReplicate,d1]
   refine .q ?_;refine .ifT (by simp (disch:=first|exact za|fail) only [go_sem,seval,-List.reduceReplicate]) ?_
   refine .q ?_;refine .text ?_;simp (disch:=first|exact za|fail) only [go_sem,seval,-List.reduceReplicate]
   refine .q ?_;refine .rt Tryd.func17 (by rw [Tryd.results17]) (hR := ?_);simp (disch:=first|exact za|fail) only [go_sem,seval,-List.reduceReplicate]
   exact bad fun e=>c1 (by rw [e])
 have d1:((a.l.length:Int) != (b.l.length:Int))=false:=by simp [c1]
 by_cases c2:a.gone.length=b.gone.length
 rotate_left
 · have d2:((a.gone.length:Int) != (b.gone.length:Int))=true:=bne_iff_ne.2 (by omega)
   refine .q ?_;refine .text ?_;simp (disch:=first|exact za|fail) only [go_sem,seval,-List.reduceReplicate,d1,d2]
   refine .q ?_;refine .ifT (by simp (disch:=first|exact za|fail) only [go_sem,seval,-List.reduceReplicate]) ?_
   refine .q ?_;refine .text ?_;simp (disch:=first|exact za|fail) only [go_sem,seval,-List.reduceReplicate]
   refine .q ?_;refine .rt Tryd.func17 (by rw [Tryd.results17]) (hR := ?_);simp (disch:=first|exact za|fail) only [go_sem,seval,-List.reduceReplicate]
   exact bad fun e=>c2 (by rw [e])
 have d2:((a.gone.length:Int) != (b.gone.length:Int))=false:=by simp [c2]
 refine .q ?_;refine .text ?_;simp (disch:=first|exact za|fail) only [go_sem,seval,-List.reduceReplicate,d1,d2]
 refine .q ?_;refine .ifF (by simp (disch:=first|exact za|fail) only [go_sem,seval,-List.reduceReplicate]) ?_
 refine .skip ?_
 refine .q ?_;refine .text ?_;simp (disch:=first|exact za|fail) only [go_sem,seval,-List.reduceReplicate]
 refine .q ?_;refine .loopE [2,3] (fun i=>[(5,.p (i64 i))]) (fun i=>[]) (fun i => ∀ j,j < i → nth a.l j=nth b.l j) (0) (a.l.length) (by omega) ?_ (by first | rfl | (simp (disch:=first|exact za|fail) only [go_sem,seval,-List.reduceReplicate]<;>rfl)) ?_ ?_ ?_
 · simp (disch:=first|exact za|fail) only [go_sem,seval,-List.reduceReplicate]<;>(repeat' (first | rfl | refine And.intro ?_ ?_))
 rotate_left 1
 intro env E hQ;simp (disch:=first|exact za|fail) only [go_sem,seval,-List.reduceReplicate] at E
 rotate_left 1
 intro i env hi0 hi E hQ ihE;simp (disch:=first|exact za|fail) only [go_sem,seval,-List.reduceReplicate] at E
 rotate_left 1
 · intro j hj;omega
 rotate_left
 · have hbi:i < b.l.length:=by omega
   have e:=neR (ha _ (zah hi)) (hb _ (zah hbi))
   refine .q ?_;refine .text ?_;simp (disch:=first|exact za|fail) only [go_sem,seval,-List.reduceReplicate,E]
   refine .q ?_;refine .ifT (by simp (disch:=first|exact za|fail) only [go_sem,seval,-List.reduceReplicate]) ?_
   by_cases q:nth a.l i=nth b.l i
   · have d:(!decide (nth a.l i=nth b.l i))=false:=by simp [q]
     rw [d] at e
     refine .q ?_;refine .open [] follows (by kernel_rfl) ?_;simp (disch:=first|exact za|fail) only [go_sem,seval,-List.reduceReplicate,E,hag,e]
     refine .q ?_;refine .ifF (by simp (disch:=first|exact za|fail) only [go_sem,seval,-List.reduceReplicate]) ?_
     refine .skip ?_
     refine .q ?_;refine .text ?_;simp (disch:=first|exact za|fail) only [go_sem,seval,-List.reduceReplicate,E]
     first | (refine ihE _ _ ?_ (zm hQ q) ?_) | (refine .z rfl ?_;refine ihE _ _ ?_ (zm hQ q) ?_) | (refine .z rfl ?_;refine .z rfl ?_;refine ihE _ _ ?_ (zm hQ q) ?_) | (refine .z rfl ?_;refine .z rfl ?_;refine .z rfl ?_;refine ihE _ _ ?_ (zm hQ q) ?_)
     · simp (disch:=first|exact za|fail) only [go_sem,seval,-List.reduceReplicate,E]<;>(repeat' (first | rfl | refine And.intro ?_ ?_))
     · first | rfl | (simp (disch:=first|exact za|fail) only [go_sem,seval,-List.reduceReplicate,E]<;>(try rfl))
   · have d:(!decide (nth a.l i=nth b.l i))=true:=by simp [q]
     rw [d] at e
     refine .q ?_;refine .open [] follows (by kernel_rfl) ?_;simp (disch:=first|exact za|fail) only [go_sem,seval,-List.reduceReplicate,E,hag,e]
     refine .q ?_;refine .ifT (by simp (disch:=first|exact za|fail) only [go_sem,seval,-List.reduceReplicate]) ?_
     refine .q ?_;refine .text ?_;simp (disch:=first|exact za|fail) only [go_sem,seval,-List.reduceReplicate,E]
     refine .q ?_;refine .rt Tryd.func17 (by rw [Tryd.results17]) (hx:=by simp (disch:=first|exact za|fail) only [go_sem,seval,-List.reduceReplicate,E];rfl) (hR := ?_);simp (disch:=first|exact za|fail) only [go_sem,seval,-List.reduceReplicate,E]
     exact bad fun x=>q (by rw [x])
 · have el:a.l=b.l:=zeY c1 hQ
   refine .q ?_;refine .text ?_;simp (disch:=first|exact za|fail) only [go_sem,seval,-List.reduceReplicate,E]
   refine .q ?_;refine .ifF (by simp (disch:=first|exact za|fail) only [go_sem,seval,-List.reduceReplicate]) ?_
   refine .q ?_;refine .text ?_;simp (disch:=first|exact za|fail) only [go_sem,seval,-List.reduceReplicate,E]
   refine .q ?_;refine .loopE [2,3] (fun j=>[(6,.p (i64 j))]) (fun j=>[]) (fun j => ∀ i,i < j → nth a.gone i=nth b.gone i) (0) (a.gone.length) (by omega) ?_ (by first | rfl | (simp (disch:=first|exact za|fail) only [go_sem,seval,-List.reduceReplicate,E]<;>rfl)) ?_ ?_ ?_
   · simp (disch:=first|exact za|fail) only [go_sem,seval,-List.reduceReplicate,E]<;>(repeat' (first | rfl | refine And.intro ?_ ?_))
   rotate_left 1
   intro env F hQ;simp (disch:=first|exact za|fail) only [go_sem,seval,-List.reduceReplicate,E] at F
   rotate_left 1
   intro j env hj0 hj F hQ ihF;simp (disch:=first|exact za|fail) only [go_sem,seval,-List.reduceReplicate,E] at F
   rotate_left 1
   · intro j hj;omega
   · have eg:a.gone=b.gone:=zeY c2 hQ
     have eab:a=b:=by cases a;cases b;simp only at el eg;rw [el,eg]
     refine .q ?_;refine .text ?_;simp (disch:=first|exact za|fail) only [go_sem,seval,-List.reduceReplicate,F]
     refine .q ?_;refine .ifF (by simp (disch:=first|exact za|fail) only [go_sem,seval,-List.reduceReplicate]) ?_
     refine .q ?_;refine .text ?_;simp (disch:=first|exact za|fail) only [go_sem,seval,-List.reduceReplicate,F]
     refine .q ?_;refine .rt Tryd.func17 (by rw [Tryd.results17]) (hx:=by simp (disch:=first|exact za|fail) only [go_sem,seval,-List.reduceReplicate,F,E];rfl) (hR := ?_);simp (disch:=first|exact za|fail) only [go_sem,seval,-List.reduceReplicate,F,E]
     rw [decide_eq_true eab] at h
     exact h
   · have hbj:j < b.gone.length:=by omega
     have hbo:isBool Tryd.prog 4=true:=by kernel_rfl
     refine .q ?_;refine .text ?_;simp (disch:=first|exact za|fail) only [go_sem,seval,-List.reduceReplicate,F]
     refine .q ?_;refine .ifT (by simp (disch:=first|exact za|fail) only [go_sem,seval,-List.reduceReplicate]) ?_
     by_cases q:nth a.gone j=nth b.gone j
     · have d:(!(nth a.gone j == nth b.gone j))=false:=by simp [q]
       refine .q ?_;refine .open [] follows (by kernel_rfl) ?_;simp (disch:=first|exact za|fail) only [go_sem,seval,-List.reduceReplicate,F,E,d]
       refine .q ?_;refine .ifF (by simp (disch:=first|exact za|fail) only [go_sem,seval,-List.reduceReplicate]) ?_
       refine .skip ?_
       refine .q ?_;refine .text ?_;simp (disch:=first|exact za|fail) only [go_sem,seval,-List.reduceReplicate,F]
       first | (refine ihF _ _ ?_ (zm hQ q) ?_) | (refine .z rfl ?_;refine ihF _ _ ?_ (zm hQ q) ?_) | (refine .z rfl ?_;refine .z rfl ?_;refine ihF _ _ ?_ (zm hQ q) ?_) | (refine .z rfl ?_;refine .z rfl ?_;refine .z rfl ?_;refine ihF _ _ ?_ (zm hQ q) ?_)
       · simp (disch:=first|exact za|fail) only [go_sem,seval,-List.reduceReplicate,F,E]<;>(repeat' (first | rfl | refine And.intro ?_ ?_))
       · first | rfl | (simp (disch:=first|exact za|fail) only [go_sem,seval,-List.reduceReplicate,F,E]<;>(try rfl))
     · have d:(!(nth a.gone j == nth b.gone j))=true:=by simp [q]
       refine .q ?_;refine .open [] follows (by kernel_rfl) ?_;simp (disch:=first|exact za|fail) only [go_sem,seval,-List.reduceReplicate,F,E,d]
       refine .q ?_;refine .ifT (by simp (disch:=first|exact za|fail) only [go_sem,seval,-List.reduceReplicate]) ?_
       refine .q ?_;refine .text ?_;simp (disch:=first|exact za|fail) only [go_sem,seval,-List.reduceReplicate,F]
       refine .q ?_;refine .rt Tryd.func17 (by rw [Tryd.results17]) (hx:=by simp (disch:=first|exact za|fail) only [go_sem,seval,-List.reduceReplicate,F,E];rfl) (hR := ?_);simp (disch:=first|exact za|fail) only [go_sem,seval,-List.reduceReplicate,F,E]
       exact bad fun x=>q (by rw [x])
set_option maxHeartbeats 4000000 in
theorem zgh (l:List T3) (hl:l.length≤9223372036854775807) (H:Hp) (R:AV → Hp → Prop) (h:R (.p (.sl false 4 (pl zy (rds l)))) H):ACall Tryd.prog G 31 [.p (.sl false 3 (pl tri l))] H R:=by
 have r0:pl zy ((l.take 0).map rdt)=[]:=rfl
 have hag : ∀ r,(tri r).aggOf 0 3=tri r:=fun _=>rfl
 have hlen3 : ∀ y∈pl tri l,y.cells.length=3:=fun y hy=>by
  simp only [pl,List.mem_map] at hy
  obtain⟨x,_,rfl⟩:=hy
  rfl
 refine ACall.of_run (raw:=[]) Tryd.func31 rfl Tryd.ntmps31 (by simp) fun hbel => ?_
 refine .q ?_;refine .text ?_;simp (disch:=first|exact za|fail) only [go_sem,seval,-List.reduceReplicate]
 refine .q ?_;refine .text ?_;simp (disch:=first|exact za|fail) only [go_sem,seval,-List.reduceReplicate]
 refine .q ?_;refine .own 3 (by simp (disch:=first|exact za|fail) only [go_sem,seval,-List.reduceReplicate];rfl) ?_
 refine .q ?_;refine .text ?_;simp (disch:=first|exact za|fail) only [go_sem,seval,-List.reduceReplicate]
 refine .q ?_;refine .loopE [0] (fun i=>[(3,.sl H.n i 4 (pl zy ((l.take i).map rdt))),(4,.p (i64 i))]) (fun i=>[(H.n,.tail i)]) (fun i=>True) (0) (min 20 l.length) (by omega) ?_ (by first | rfl | (simp (disch:=first|exact za|fail) only [go_sem,seval,-List.reduceReplicate,r0]<;>rfl)) ?_ ?_ ?_
 · simp (disch:=first|exact za|fail) only [go_sem,seval,-List.reduceReplicate,r0]<;>(repeat' (first | rfl | refine And.intro ?_ ?_))
 · exact trivial
 intro env E hQ;simp (disch:=first|exact za|fail) only [go_sem,seval,-List.reduceReplicate,r0] at E
 rotate_left 1
 intro i env hi0 hi E hQ ihE;simp (disch:=first|exact za|fail) only [go_sem,seval,-List.reduceReplicate,r0] at E
 rotate_left 1
 · have hall:(l.take (min 20 l.length)).map rdt=rds l:=by
    rw [rds]
    congr 1
    by_cases c:20≤l.length
    · rw [Nat.min_eq_left c]
    · rw [Nat.min_eq_right (by omega),List.take_length,List.take_of_length_le (by omega)]
   by_cases c1:l.length≤20
   · have hall':l.map rdt=rds l:=by rw [rds,List.take_of_length_le c1]
     have d1:decide (((min 20 l.length:Nat):Int) < (l.length:Int))=false:=decide_eq_false (by omega)
     refine .q ?_;refine .text ?_;simp (disch:=first|exact za|fail) only [go_sem,seval,-List.reduceReplicate,E,zc,zh,d1]
     refine .q ?_;refine .ifF (by simp (disch:=first|exact za|fail) only [go_sem,seval,-List.reduceReplicate]) ?_
     refine .q ?_;refine .text ?_;simp (disch:=first|exact za|fail) only [go_sem,seval,-List.reduceReplicate,E,zc,zh,hall,hall']
     refine .q ?_;refine .rt Tryd.func31 (by rw [Tryd.results31]) (hx:=by simp (disch:=first|exact za|fail) only [go_sem,seval,-List.reduceReplicate,E,hall];rfl) (hR := ?_);simp (disch:=first|exact za|fail) only [go_sem,seval,-List.reduceReplicate,E,hall]
     exact h
   · have d1:decide (((min 20 l.length:Nat):Int) < (l.length:Int))=true:=decide_eq_true (by omega)
     have d2:decide (((min 20 l.length:Nat):Int) < 20)=false:=decide_eq_false (by omega)
     refine .q ?_;refine .text ?_;simp (disch:=first|exact za|fail) only [go_sem,seval,-List.reduceReplicate,E,zc,zh,d1,d2]
     refine .q ?_;refine .ifF (by simp (disch:=first|exact za|fail) only [go_sem,seval,-List.reduceReplicate]) ?_
     refine .q ?_;refine .text ?_;simp (disch:=first|exact za|fail) only [go_sem,seval,-List.reduceReplicate,E,zc,zh,hall]
     refine .q ?_;refine .rt Tryd.func31 (by rw [Tryd.results31]) (hx:=by simp (disch:=first|exact za|fail) only [go_sem,seval,-List.reduceReplicate,E,hall];rfl) (hR := ?_);simp (disch:=first|exact za|fail) only [go_sem,seval,-List.reduceReplicate,E,hall]
     exact h
 · have hil:i < l.length:=by omega
   have d1:decide ((i:Int) < (l.length:Int))=true:=decide_eq_true (by omega)
   have d2:decide ((i:Int) < 20)=true:=decide_eq_true (by omega)
   have htw:(tri (nth l i)).weak = .agg [b8 (nth l i).1,b8 (nth l i).2.1,b8 (nth l i).2.2]:=rfl
   have hs:pl zy ((l.take i).map rdt)++[zy (rdt (nth l i))]=pl zy ((l.take (i+1)).map rdt):=by
    rw [←Go.AL.take_one hil];simp [pl]
   have hln:(pl zy ((l.take i).map rdt)).length≤20:=by simp [pl];omega
   have hrw:(zy (rdt (nth l i))).weak=zy (rdt (nth l i)):=rfl
   refine .q ?_;refine .text ?_;simp (disch:=first|exact za|fail) only [go_sem,seval,-List.reduceReplicate,E,zc,zh,d1,d2]
   refine .q ?_;refine .ifT (by simp (disch:=first|exact za|fail) only [go_sem,seval,-List.reduceReplicate]) ?_
   have htl : ∀ t,(tri t).cells.length=3:=fun _=>rfl
   have hrd : ∀ t:T3,rd3 t.1 t.2.1 t.2.2=rdt t:=fun _=>rfl
   have hal:((pl zy [rdt (nth l i)]).all fun y=>y.cells.length == 4)=true:=zf7
   have hon : ∀ r,[zy r]=pl zy [r]:=fun _=>rfl
   have hs2:pl zy ((l.take i).map rdt)++pl zy [rdt (nth l i)]=pl zy ((l.take (i+1)).map rdt):=hs
   refine .q ?_;refine .text ?_;simp (disch:=first|exact za|fail) only [go_sem,seval,-List.reduceReplicate,E,zc,zh,hag,htw,htl]
   refine CallK.of (fun R h=>zgE _ _ _ _ R h) ?_;simp (disch:=first|exact za|fail) only [go_sem,seval,-List.reduceReplicate,E,zc,zh,hrd,hal,hon,yY,hs2,hln]
   refine .q ?_;refine .text ?_;simp (disch:=first|exact za|fail) only [go_sem,seval,-List.reduceReplicate,E,zc,zh]
   first | (refine ihE _ _ ?_ trivial ?_) | (refine .z rfl ?_;refine ihE _ _ ?_ trivial ?_) | (refine .z rfl ?_;refine .z rfl ?_;refine ihE _ _ ?_ trivial ?_) | (refine .z rfl ?_;refine .z rfl ?_;refine .z rfl ?_;refine ihE _ _ ?_ trivial ?_)
   · simp (disch:=first|exact za|fail) only [go_sem,seval,-List.reduceReplicate,E,zc,zh,yY,hs2]<;>(repeat' (first | rfl | refine And.intro ?_ ?_))
   · first | rfl | (simp (disch:=first|exact za|fail) only [go_sem,seval,-List.reduceReplicate,E,zc,zh,yY,hs2]<;>(try rfl))
end walks
end Go.Proofs.YtdpfkanfahchjaaDoor

/-
  The log of readings: operations on streams and on stores.
-/
namespace Go.Proofs.YtdpfkanfahchjaaDoor
open Go Go.AL

structure Op where
 k:BitVec 8
 l:List T3
 a:BitVec 16
def opv (x:Op):PV := .agg [b8 x.k,.sl false 3 (pl tri x.l),w16 x.a]
theorem zwn {x:Op}:zi (.p (opv x))=some [.p (b8 x.k),.p (.sl false 3 (pl tri x.l)),.p (w16 x.a)]:=rfl
def chg (s:Strm) (x:Op):Strm × Bool :=
 if x.k % 4#8=1#8 then
  if s.l.length=0 then (s,false)
  else if (yP s (x.a.toNat % s.l.length:Nat)).2≠0 then (s,false) else ((yP s (x.a.toNat % s.l.length:Nat)).1,true)
 else (⟨s.l++rds x.l,s.gone++List.replicate (rds x.l).length false⟩,decide (0 < (rds x.l).length))
section walks
variable {G:Globs}
end walks
end Go.Proofs.YtdpfkanfahchjaaDoor

/-
  The log of readings: an operation on a store.
-/
namespace Go.Proofs.YtdpfkanfahchjaaDoor
open Go Go.AL

noncomputable def apV (s:Sto) (x:Op):Sto :=
 if x.k % 4#8=1#8 then
  if (lS s.1).l.length=0 then s
  else if (rtV s (x.a.toNat % (lS s.1).l.length:Nat)).2=0 then (rtV s (x.a.toNat % (lS s.1).l.length:Nat)).1 else s
 else if x.k % 4#8=2#8 then (s.1,s.1.length)
 else if x.k % 4#8=3#8 then (s.1.take (crN s.1 s.2 x.a.toNat),(crN s.1 s.2 x.a.toNat:Nat))
 else if (zbl s (rds x.l)).2=0 then (zbl s (rds x.l)).1 else s
def WS (s:Sto):Prop:=0≤s.2∧s.2≤s.1.length
section walks
variable {G:Globs}
set_option maxHeartbeats 8000000 in
set_option maxRecDepth 20000 in
theorem ziA (hG0:G 0=some (8,[.agg (pl zw inits)])) (hG1:G 1=some (64,[.agg (pl zw ks)])) (d:By) (s0:Int) (x:Op) (hw:WS (d,s0)) (hd:d.length≤1000000000) (hx:x.l.length≤9223372036854775807) (H:Hp) (R:AV → Hp → Prop)
 (h:R (.p (sto (apV (d,s0) x).1 (apV (d,s0) x).2)) H):ACall Tryd.prog G 35 [.p (sto d s0),.p (opv x)] H R:=by
 unfold apV at h
 dsimp only at h
 have hsw:(sto d s0).weak=sto d s0:=rfl
 have rr : ∀ y:BitVec 8,zo Tryd.prog .rem 5 (.p (b8 y)) (.p (b8 4#8))=some (.p (b8 (y % 4#8))):=fun y=>zdd _ _ _ _ (by decide)
 refine ACall.of_run (raw:=[]) Tryd.func35 rfl Tryd.ntmps35 (by simp) fun hbel => ?_
 refine .q ?_;refine .text ?_;simp (disch:=first|exact za|fail) only [go_sem,seval,-List.reduceReplicate,zwn]
 by_cases k1:x.k % 4#8=1#8
 · have dk:(x.k % 4#8 == 1#8)=true:=by simpa using k1
   rw [if_pos k1] at h
   refine .q ?_;refine .text ?_;simp (disch:=first|exact za|fail) only [go_sem,seval,-List.reduceReplicate,rr,dk]
   refine .q ?_;refine .text ?_;simp (disch:=first|exact za|fail) only [go_sem,seval,-List.reduceReplicate,rr,dk]
   refine .q ?_;refine .ifT (by simp (disch:=first|exact za|fail) only [go_sem,seval,-List.reduceReplicate]) ?_
   refine .q ?_;refine .text ?_;simp (disch:=first|exact za|fail) only [go_sem,seval,-List.reduceReplicate]
   refine CallK.of (fun R h=>zas hG0 hG1 d s0 (by omega) _ R h) ?_;simp (disch:=first|exact za|fail) only [go_sem,seval,-List.reduceReplicate]
   have hok:=zhk (d:=d)
   obtain⟨S,hS⟩ : ∃ S,S=lS d:=⟨_,rfl⟩
   rw [←hS] at h hok ⊢
   have hSl:=hok.2
   refine .q ?_;refine .text ?_;simp (disch:=first|exact za|fail) only [go_sem,seval,-List.reduceReplicate]
   by_cases c1:S.l.length=0
   · have d1:((S.l.length:Int) == 0)=true:=beq_iff_eq.2 (by omega)
     rw [if_pos c1] at h
     refine .q ?_;refine .ifT (by simp (disch:=first|exact za|fail) only [go_sem,seval,-List.reduceReplicate,d1]) ?_
     refine .q ?_;refine .text ?_;simp (disch:=first|exact za|fail) only [go_sem,seval,-List.reduceReplicate]
     refine .q ?_;refine .rt Tryd.func35 (by rw [Tryd.results35]) (hR := ?_);simp (disch:=first|exact za|fail) only [go_sem,seval,-List.reduceReplicate]
     exact h
   have d1:((S.l.length:Int) == 0)=false:=beq_eq_false_iff_ne.2 (by omega)
   rw [if_neg c1] at h
   refine .q ?_;refine .ifF (by simp (disch:=first|exact za|fail) only [go_sem,seval,-List.reduceReplicate,d1]) ?_
   refine .skip ?_
   obtain⟨n,hn⟩ : ∃ n,n=x.a.toNat % S.l.length:=⟨_,rfl⟩
   have hmod:(x.a.toNat:Int) % (S.l.length:Int)=(n:Int):=by rw [hn];exact (Int.natCast_emod _ _).symm
   have hnl:n < S.l.length:=by rw [hn];exact Nat.mod_lt _ (by omega)
   obtain⟨V,hV⟩ : ∃ V,V=rtV (d,s0) (n:Nat):=⟨_,rfl⟩
   rw [←hn,←hV] at h
   have hret : ∀ (B:Hp) (R:AV → Hp → Prop),R (.tup [.p (sto V.1.1 V.1.2),.p (i64 V.2)]) B → ACall Tryd.prog G 15 [.p (sto d s0),.p (i64 (n:Nat))] B R:=fun B R h=>yG hG0 hG1 d s0 (n:Nat) hd B R (by rw [hV] at h;exact h)
   obtain⟨B,hB⟩ : ∃ B,B=(((H.new (.cells [.p (.sl false 1 (pl b8 d)),.p (i64 s0)])).new (.cells [.p (b8 x.k),.p (.sl false 3 (pl tri x.l)),.p (w16 x.a)])).new (.cells [.p (.sl true 1 []),.p (i64 0)])).new (.cells [.p (.sl false 4 (pl zy S.l)),.p (.sl false 1 (pl bo S.gone))]):=⟨_,rfl⟩
   obtain⟨C,hC⟩ : ∃ C,C=B.new (.cells [.p (.sl false 1 (pl b8 V.1.1)),.p (i64 V.1.2)]):=⟨_,rfl⟩
   refine .q ?_;refine .cutH [2,4] [(8,.ptr (H.n+4) 0),(9,.p (i64 V.2))] (C) (fun ihF => ?_) (fun env F => ?_)
   rotate_left 1
   simp (disch:=first|exact za|fail) only [go_sem,seval,-List.reduceReplicate] at F
   rotate_left 1
   · refine .openTr (.one 0 (.one 1 (.one 2 (.one 3 (.one 4 (.one 5 (.one 6 (.fork 7 12 (.fork 8 12 (.lin [9,10,11,12,13,14]) (.lin [8,9,10,11,13,14])) (.lin [7,8,9,10,11,13,14]))))))))) [12,13] follows (by kernel_rfl) ?_
     refine zB (.p (sto d s0)) rfl rfl (by simp (disch:=first|exact za|fail) only [go_sem,seval,-List.reduceReplicate]<;>rfl) rfl ?_
     refine zB (.ptr (H.n+1) 2) rfl rfl (by simp (disch:=first|exact za|fail) only [go_sem,seval,-List.reduceReplicate]<;>rfl) rfl ?_
     refine zB (.p (w16 x.a)) rfl rfl (by simp (disch:=first|exact za|fail) only [go_sem,seval,-List.reduceReplicate]<;>rfl) rfl ?_
     refine zB (.p (i64 x.a.toNat)) rfl rfl (by simp (disch:=first|exact za|fail) only [go_sem,seval,-List.reduceReplicate]<;>rfl) rfl ?_
     refine zB (.ptr (H.n+3) 0) rfl rfl (by simp (disch:=first|exact za|fail) only [go_sem,seval,-List.reduceReplicate]<;>rfl) rfl ?_
     refine zB (.p (.sl false 4 (pl zy S.l))) rfl rfl (by simp (disch:=first|exact za|fail) only [go_sem,seval,-List.reduceReplicate]<;>rfl) rfl ?_
     refine zB (.p (i64 S.l.length)) rfl rfl (by simp (disch:=first|exact za|fail) only [go_sem,seval,-List.reduceReplicate]<;>rfl) rfl ?_
     refine And.intro (zB (.p (i64 (n:Nat))) rfl rfl (by simp (disch:=first|exact za|fail) only [go_sem,seval,-List.reduceReplicate,hmod]<;>rfl) rfl (And.intro (zaE (.tup [.p (sto V.1.1 V.1.2),.p (i64 V.2)]) rfl rfl (by simp (disch:=first|exact za|fail) only [go_sem,seval,-List.reduceReplicate,hsw]<;>rfl) (by rfl) rfl (fun R h=>hret _ R h) ?_) ?_)) ?_
     · refine zT [3,4] (by kernel_rfl) ?_
       simp (disch:=first|exact za|fail) only [go_sem,seval,-List.reduceReplicate]
       first | (refine ihF _ _ ?_ ?_) | (refine .z rfl ?_;refine ihF _ _ ?_ ?_) | (refine .z rfl ?_;refine .z rfl ?_;refine ihF _ _ ?_ ?_) | (refine .z rfl ?_;refine .z rfl ?_;refine .z rfl ?_;refine ihF _ _ ?_ ?_)
       · simp (disch:=first|exact za|fail) only [go_sem,seval,-List.reduceReplicate]<;>(repeat' (first | rfl | refine And.intro ?_ ?_))
       · exact (by rw [hC,hB])
     · refine zad (.ptr (H.n+4) 0) rfl rfl (by simp (disch:=first|exact za|fail) only [go_sem,seval,-List.reduceReplicate]<;>rfl) rfl ?_
       refine zT [4] (by kernel_rfl) ?_
       simp (disch:=first|exact za|fail) only [go_sem,seval,-List.reduceReplicate,hsw]
       refine CallD.still (fun R h=>hret _ R h) ?_;simp (disch:=first|exact za|fail) only [go_sem,seval,-List.reduceReplicate,hsw]
       first | (refine ihF _ _ ?_ ?_) | (refine .z rfl ?_;refine ihF _ _ ?_ ?_) | (refine .z rfl ?_;refine .z rfl ?_;refine ihF _ _ ?_ ?_) | (refine .z rfl ?_;refine .z rfl ?_;refine .z rfl ?_;refine ihF _ _ ?_ ?_)
       · simp (disch:=first|exact za|fail) only [go_sem,seval,-List.reduceReplicate]<;>(repeat' (first | rfl | refine And.intro ?_ ?_))
       · exact (by rw [hC,hB])
     · refine zad (.ptr (H.n+4) 0) rfl rfl (by simp (disch:=first|exact za|fail) only [go_sem,seval,-List.reduceReplicate]<;>rfl) rfl ?_
       refine zT [5] (by kernel_rfl) ?_
       simp (disch:=first|exact za|fail) only [go_sem,seval,-List.reduceReplicate,hsw,hmod]
       refine CallD.still (fun R h=>hret _ R h) ?_;simp (disch:=first|exact za|fail) only [go_sem,seval,-List.reduceReplicate,hsw]
       first | (refine ihF _ _ ?_ ?_) | (refine .z rfl ?_;refine ihF _ _ ?_ ?_) | (refine .z rfl ?_;refine .z rfl ?_;refine ihF _ _ ?_ ?_) | (refine .z rfl ?_;refine .z rfl ?_;refine .z rfl ?_;refine ihF _ _ ?_ ?_)
       · simp (disch:=first|exact za|fail) only [go_sem,seval,-List.reduceReplicate]<;>(repeat' (first | rfl | refine And.intro ?_ ?_))
       · exact (by rw [hC,hB])
   · subst hC hB
     by_cases c2:V.2=0
     · have d2:(V.2 == 0)=true:=by simpa using c2
       rw [if_pos c2] at h
       refine .q ?_;refine .text ?_;simp (disch:=first|exact za|fail) only [go_sem,seval,-List.reduceReplicate,F,d2]
       refine .q ?_;refine .ifT (by simp (disch:=first|exact za|fail) only [go_sem,seval,-List.reduceReplicate]) ?_
       refine .q ?_;refine .text ?_;simp (disch:=first|exact za|fail) only [go_sem,seval,-List.reduceReplicate,F]
       refine .q ?_;refine .rt Tryd.func35 (by rw [Tryd.results35]) (hx:=by simp (disch:=first|exact za|fail) only [go_sem,seval,-List.reduceReplicate,F];rfl) (hR := ?_);simp (disch:=first|exact za|fail) only [go_sem,seval,-List.reduceReplicate,F]
       exact h
     · have d2:(V.2 == 0)=false:=by simpa using c2
       rw [if_neg c2] at h
       refine .q ?_;refine .text ?_;simp (disch:=first|exact za|fail) only [go_sem,seval,-List.reduceReplicate,F,d2]
       refine .q ?_;refine .ifF (by simp (disch:=first|exact za|fail) only [go_sem,seval,-List.reduceReplicate]) ?_
       refine .skip ?_
       refine .q ?_;refine .text ?_;simp (disch:=first|exact za|fail) only [go_sem,seval,-List.reduceReplicate,F]
       refine .q ?_;refine .rt Tryd.func35 (by rw [Tryd.results35]) (hx:=by simp (disch:=first|exact za|fail) only [go_sem,seval,-List.reduceReplicate,F];rfl) (hR := ?_);simp (disch:=first|exact za|fail) only [go_sem,seval,-List.reduceReplicate,F]
       exact h
 have dk1:(x.k % 4#8 == 1#8)=false:=by simpa using k1
 rw [if_neg k1] at h
 refine .q ?_;refine .text ?_;simp (disch:=first|exact za|fail) only [go_sem,seval,-List.reduceReplicate,rr,dk1]
 refine .q ?_;refine .text ?_;simp (disch:=first|exact za|fail) only [go_sem,seval,-List.reduceReplicate,rr,dk1]
 refine .q ?_;refine .ifF (by simp (disch:=first|exact za|fail) only [go_sem,seval,-List.reduceReplicate]) ?_
 by_cases k2:x.k % 4#8=2#8
 · have dk2:(x.k % 4#8 == 2#8)=true:=by simpa using k2
   rw [if_pos k2] at h
   refine .q ?_;refine .text ?_;simp (disch:=first|exact za|fail) only [go_sem,seval,-List.reduceReplicate,dk2]
   refine .q ?_;refine .ifT (by simp (disch:=first|exact za|fail) only [go_sem,seval,-List.reduceReplicate]) ?_
   refine .q ?_;refine .text ?_;simp (disch:=first|exact za|fail) only [go_sem,seval,-List.reduceReplicate]
   refine CallK.of (fun R h=>zek d s0 _ R h) ?_;simp (disch:=first|exact za|fail) only [go_sem,seval,-List.reduceReplicate]
   refine .q ?_;refine .rt Tryd.func35 (by rw [Tryd.results35]) (hR := ?_);simp (disch:=first|exact za|fail) only [go_sem,seval,-List.reduceReplicate]
   exact h
 have dk2:(x.k % 4#8 == 2#8)=false:=by simpa using k2
 rw [if_neg k2] at h
 refine .q ?_;refine .text ?_;simp (disch:=first|exact za|fail) only [go_sem,seval,-List.reduceReplicate,dk2]
 refine .q ?_;refine .ifF (by simp (disch:=first|exact za|fail) only [go_sem,seval,-List.reduceReplicate]) ?_
 by_cases k3:x.k % 4#8=3#8
 · have dk3:(x.k % 4#8 == 3#8)=true:=by simpa using k3
   have hxa:=x.a.isLt
   rw [if_pos k3] at h
   refine .q ?_;refine .text ?_;simp (disch:=first|exact za|fail) only [go_sem,seval,-List.reduceReplicate,dk3]
   refine .q ?_;refine .ifT (by simp (disch:=first|exact za|fail) only [go_sem,seval,-List.reduceReplicate]) ?_
   refine .q ?_;refine .text ?_;simp (disch:=first|exact za|fail) only [go_sem,seval,-List.reduceReplicate]
   refine CallK.of (fun R h=>zdo d s0 (x.a.toNat:Nat) hw (by omega) ⟨by omega,by omega⟩ _ R h) ?_;simp (disch:=first|exact za|fail) only [go_sem,seval,-List.reduceReplicate]
   refine .q ?_;refine .rt Tryd.func35 (by rw [Tryd.results35]) (hR := ?_);simp (disch:=first|exact za|fail) only [go_sem,seval,-List.reduceReplicate]
   exact h
 have dk3:(x.k % 4#8 == 3#8)=false:=by simpa using k3
 rw [if_neg k3] at h
 refine .q ?_;refine .text ?_;simp (disch:=first|exact za|fail) only [go_sem,seval,-List.reduceReplicate,dk3]
 refine .q ?_;refine .ifF (by simp (disch:=first|exact za|fail) only [go_sem,seval,-List.reduceReplicate]) ?_
 obtain⟨W,hW⟩ : ∃ W,W=rds x.l:=⟨_,rfl⟩
 have hWl:W.length≤20:=by rw [hW,zn7];omega
 have hrd : ∀ (B:Hp) (R:AV → Hp → Prop),R (.p (.sl false 4 (pl zy W))) B → ACall Tryd.prog G 31 [.p (.sl false 3 (pl tri x.l))] B R:=fun B R h=>zgh x.l hx B R (by rw [hW] at h;exact h)
 obtain⟨V,hV⟩ : ∃ V,V=zbl (d,s0) W:=⟨_,rfl⟩
 have happ : ∀ (B:Hp) (R:AV → Hp → Prop),R (.tup [.p (sto V.1.1 V.1.2),.p (i64 V.2)]) B → ACall Tryd.prog G 13 [.p (sto d s0),.p (.sl false 4 (pl zy W))] B R:=fun B R h=>zaw hG0 hG1 d s0 W hd (by omega) B R (by rw [hV] at h;exact h)
 rw [←hW,←hV] at h
 have hww:(PV.sl false 4 (pl zy W)).weak = .sl false 4 (pl zy W):=rfl
 have htw:(PV.sl false 3 (pl tri x.l)).weak = .sl false 3 (pl tri x.l):=rfl
 obtain⟨B,hB⟩ : ∃ B,B=((H.new (.cells [.p (.sl false 1 (pl b8 d)),.p (i64 s0)])).new (.cells [.p (b8 x.k),.p (.sl false 3 (pl tri x.l)),.p (w16 x.a)])).new (.cells [.p (.sl true 1 []),.p (i64 0)]):=⟨_,rfl⟩
 obtain⟨C,hC⟩ : ∃ C,C=B.new (.cells [.p (.sl false 1 (pl b8 V.1.1)),.p (i64 V.1.2)]):=⟨_,rfl⟩
 refine .q ?_;refine .cutH [2,4] [(10,.ptr (H.n+3) 0),(11,.p (i64 V.2))] (C) (fun ihF => ?_) (fun env F => ?_)
 rotate_left 1
 simp (disch:=first|exact za|fail) only [go_sem,seval,-List.reduceReplicate] at F
 rotate_left 1
 · refine .openTr (.one 0 (.one 1 (.one 2 (.fork 3 8 (.fork 4 8 (.lin [5,6,7,8,9,10]) (.lin [4,5,6,7,9,10])) (.lin [3,4,5,6,7,9,10]))))) [8,9] follows (by kernel_rfl) ?_
   refine zB (.p (sto d s0)) rfl rfl (by simp (disch:=first|exact za|fail) only [go_sem,seval,-List.reduceReplicate]<;>rfl) rfl ?_
   refine zB (.ptr (H.n+1) 1) rfl rfl (by simp (disch:=first|exact za|fail) only [go_sem,seval,-List.reduceReplicate]<;>rfl) rfl ?_
   refine zB (.p (.sl false 3 (pl tri x.l))) rfl rfl (by simp (disch:=first|exact za|fail) only [go_sem,seval,-List.reduceReplicate]<;>rfl) rfl ?_
   refine And.intro (zaE (.p (.sl false 4 (pl zy W))) rfl rfl (by simp (disch:=first|exact za|fail) only [go_sem,seval,-List.reduceReplicate,htw]<;>rfl) (by rfl) rfl (fun R h=>hrd _ R h) (And.intro (zaE (.tup [.p (sto V.1.1 V.1.2),.p (i64 V.2)]) rfl rfl (by simp (disch:=first|exact za|fail) only [go_sem,seval,-List.reduceReplicate,hsw,hww]<;>rfl) (by rfl) rfl (fun R h=>happ _ R h) ?_) ?_)) ?_
   · refine zT [3,4] (by kernel_rfl) ?_
     simp (disch:=first|exact za|fail) only [go_sem,seval,-List.reduceReplicate]
     first | (refine ihF _ _ ?_ ?_) | (refine .z rfl ?_;refine ihF _ _ ?_ ?_) | (refine .z rfl ?_;refine .z rfl ?_;refine ihF _ _ ?_ ?_) | (refine .z rfl ?_;refine .z rfl ?_;refine .z rfl ?_;refine ihF _ _ ?_ ?_)
     · simp (disch:=first|exact za|fail) only [go_sem,seval,-List.reduceReplicate]<;>(repeat' (first | rfl | refine And.intro ?_ ?_))
     · exact (by rw [hC,hB])
   · refine zad (.ptr (H.n+3) 0) rfl rfl (by simp (disch:=first|exact za|fail) only [go_sem,seval,-List.reduceReplicate]<;>rfl) rfl ?_
     refine zT [4] (by kernel_rfl) ?_
     simp (disch:=first|exact za|fail) only [go_sem,seval,-List.reduceReplicate,hsw,hww]
     refine CallD.still (fun R h=>happ _ R h) ?_;simp (disch:=first|exact za|fail) only [go_sem,seval,-List.reduceReplicate,hsw]
     first | (refine ihF _ _ ?_ ?_) | (refine .z rfl ?_;refine ihF _ _ ?_ ?_) | (refine .z rfl ?_;refine .z rfl ?_;refine ihF _ _ ?_ ?_) | (refine .z rfl ?_;refine .z rfl ?_;refine .z rfl ?_;refine ihF _ _ ?_ ?_)
     · simp (disch:=first|exact za|fail) only [go_sem,seval,-List.reduceReplicate]<;>(repeat' (first | rfl | refine And.intro ?_ ?_))
     · exact (by rw [hC,hB])
   · refine zad (.ptr (H.n+3) 0) rfl rfl (by simp (disch:=first|exact za|fail) only [go_sem,seval,-List.reduceReplicate]<;>rfl) rfl ?_
     refine zT [5] (by kernel_rfl) ?_
     simp (disch:=first|exact za|fail) only [go_sem,seval,-List.reduceReplicate,hsw,htw]
     refine CallD.still (fun R h=>hrd _ R h) ?_;simp (disch:=first|exact za|fail) only [go_sem,seval,-List.reduceReplicate,hsw,hww]
     refine CallD.still (fun R h=>happ _ R h) ?_;simp (disch:=first|exact za|fail) only [go_sem,seval,-List.reduceReplicate,hsw]
     first | (refine ihF _ _ ?_ ?_) | (refine .z rfl ?_;refine ihF _ _ ?_ ?_) | (refine .z rfl ?_;refine .z rfl ?_;refine ihF _ _ ?_ ?_) | (refine .z rfl ?_;refine .z rfl ?_;refine .z rfl ?_;refine ihF _ _ ?_ ?_)
     · simp (disch:=first|exact za|fail) only [go_sem,seval,-List.reduceReplicate]<;>(repeat' (first | rfl | refine And.intro ?_ ?_))
     · exact (by rw [hC,hB])
 · subst hC hB
   by_cases c2:V.2=0
   · have d2:(V.2 == 0)=true:=by simpa using c2
     rw [if_pos c2] at h
     refine .q ?_;refine .text ?_;simp (disch:=first|exact za|fail) only [go_sem,seval,-List.reduceReplicate,F,d2]
     refine .q ?_;refine .ifT (by simp (disch:=first|exact za|fail) only [go_sem,seval,-List.reduceReplicate]) ?_
     refine .q ?_;refine .text ?_;simp (disch:=first|exact za|fail) only [go_sem,seval,-List.reduceReplicate,F]
     refine .q ?_;refine .rt Tryd.func35 (by rw [Tryd.results35]) (hx:=by simp (disch:=first|exact za|fail) only [go_sem,seval,-List.reduceReplicate,F];rfl) (hR := ?_);simp (disch:=first|exact za|fail) only [go_sem,seval,-List.reduceReplicate,F]
     exact h
   · have d2:(V.2 == 0)=false:=by simpa using c2
     rw [if_neg c2] at h
     refine .q ?_;refine .text ?_;simp (disch:=first|exact za|fail) only [go_sem,seval,-List.reduceReplicate,F,d2]
     refine .q ?_;refine .ifF (by simp (disch:=first|exact za|fail) only [go_sem,seval,-List.reduceReplicate]) ?_
     refine .skip ?_
     refine .q ?_;refine .text ?_;simp (disch:=first|exact za|fail) only [go_sem,seval,-List.reduceReplicate,F]
     refine .q ?_;refine .rt Tryd.func35 (by rw [Tryd.results35]) (hx:=by simp (disch:=first|exact za|fail) only [go_sem,seval,-List.reduceReplicate,F];rfl) (hR := ?_);simp (disch:=first|exact za|fail) only [go_sem,seval,-List.reduceReplicate,F]
     exact h
end walks
end Go.Proofs.YtdpfkanfahchjaaDoor

/-
  The log of readings: runs of operations.
-/
namespace Go.Proofs.YtdpfkanfahchjaaDoor
open Go Go.AL

theorem zuT {s:Sto} {l:List Rdg} (h:WS s) (h2:(zbl s l).2=0):WS (zbl s l).1:=by
 unfold zbl at h2 ⊢
 split at h2<;>split
 · cases h2
 · contradiction
 · contradiction
 · split at h2
   · cases h2
   · rename_i c
     rw [if_neg c]
     have:=zhl (d:=s.1)
     have h1:=h.1
     refine⟨?_,?_⟩<;>dsimp only
     · omega
     · rw [List.length_append,List.length_take];omega
theorem zwo {s:Sto} {i:Int} (h:WS s) (h2:(rtV s i).2=0):WS (rtV s i).1:=by
 unfold rtV at h2 ⊢
 split at h2
 · rename_i c;exact absurd h2 c
 · rename_i c
   rw [if_neg c]
   have:=zhl (d:=s.1)
   have h1:=h.1
   refine⟨?_,?_⟩<;>dsimp only
   · omega
   · rw [List.length_append,List.length_take];omega
theorem zwp {d:By} {s k:Int} (h:0≤s∧s≤d.length):crN d s k≤d.length:=by unfold crN;omega
theorem zwq {s:Sto} {x:Op} (h:WS s):WS (apV s x):=by
 unfold apV
 split
 · split
   · exact h
   · split
     · rename_i c;exact zwo h c
     · exact h
 · split
   · exact⟨by dsimp only;omega,by dsimp only;omega⟩
   · split
     · have:=zwp (d:=s.1) (k:=x.a.toNat) h
       exact⟨by dsimp only;omega,by dsimp only;rw [List.length_take];omega⟩
     · split
       · rename_i c;exact zuT h c
       · exact h
theorem zuU {s:Sto} {x:Op}:(apV s x).1.length≤s.1.length+300:=by
 unfold apV
 split
 · split
   · omega
   · split
     · rename_i c
       unfold rtV at c ⊢
       split at c
       · rename_i q;exact absurd c q
       · rename_i q
         rw [if_neg q]
         dsimp only
         rw [List.length_append,List.length_take,zaf,zv];omega
     · omega
 · split
   · dsimp only;omega
   · split
     · dsimp only;rw [List.length_take];omega
     · split
       · rename_i c
         have hp:=ziv (l:=rds x.l)
         have hr:=zn7 (l:=x.l)
         unfold zbl at c ⊢
         split
         · dsimp only;rw [List.length_nil];omega
         · split
           · dsimp only;rw [List.length_nil];omega
           · dsimp only
             rw [List.length_append,List.length_take,zaf];omega
       · omega
noncomputable def zbR (l:List Op) (i:Nat):Sto:=(l.take i).foldl apV ([],0)
theorem zhm {l:List Op} {i:Nat} (h:i < l.length):zbR l (i+1)=apV (zbR l i) (l[i]):=by
 rw [zbR,List.take_succ_eq_append_getElem h,List.foldl_append];rfl
theorem ziB {l:List Op} : ∀ {i:Nat},i≤l.length → WS (zbR l i)∧(zbR l i).1.length≤300*i
 | 0,_=>⟨⟨Int.le_refl _,Int.le_refl _⟩,Nat.le_refl _⟩
 | i+1,h=>by
  obtain⟨h1,h2⟩:=ziB (l:=l) (i:=i) (by omega)
  rw [zhm (by omega)]
  exact⟨zwq h1,by have:=zuU (s:=zbR l i) (x:=l[i]);omega⟩
noncomputable def ziC (l:List Op):Sto:=zbR l (min 12 l.length)
theorem zuV {l:List Op}:WS (ziC l)∧(ziC l).1.length≤3600:=by
 obtain⟨n,hn⟩ : ∃ n,n=min 12 l.length:=⟨_,rfl⟩
 have h1:n≤l.length:=by omega
 have h2:n≤12:=by omega
 have:=ziB (l:=l) (i:=n) h1
 unfold ziC
 rw [←hn]
 exact⟨this.1,Nat.le_trans this.2 (Nat.mul_le_mul_left 300 h2)⟩
instance:Inhabited Op:=⟨⟨0#8,[],0#16⟩⟩
section walks
variable {G:Globs}
set_option maxRecDepth 20000 in
theorem zgi (H:Hp) (R:AV → Hp → Prop) (h:R (.p (sto [] 0)) H):ACall Tryd.prog G 34 [] H R:=by
 refine ACall.of_run (raw:=[]) Tryd.func34 rfl Tryd.ntmps34 (by simp) fun hbel => ?_
 refine .q ?_;refine .text ?_;simp (disch:=first|exact za|fail) only [go_sem,seval,-List.reduceReplicate]
 refine .q ?_;refine .text ?_;simp (disch:=first|exact za|fail) only [go_sem,seval,-List.reduceReplicate]
 refine .q ?_;refine .rt Tryd.func34 (by rw [Tryd.results34]) (hR := ?_);simp (disch:=first|exact za|fail) only [go_sem,seval,-List.reduceReplicate]
 exact h
set_option maxHeartbeats 4000000 in
set_option maxRecDepth 20000 in
theorem ztz (hG0:G 0=some (8,[.agg (pl zw inits)])) (hG1:G 1=some (64,[.agg (pl zw ks)])) (l:List Op) (hl:l.length≤9223372036854775807) (hx : ∀ x∈l,x.l.length≤9223372036854775807) (H:Hp) (R:AV → Hp → Prop)
 (h:R (.p (sto (ziC l).1 (ziC l).2)) H):ACall Tryd.prog G 10 [.p (.sl false 3 (pl opv l))] H R:=by
 have hag : ∀ x,(opv x).aggOf 0 3=opv x:=fun _=>rfl
 have how : ∀ x,(opv x).weak=opv x:=fun _=>rfl
 have hol : ∀ x,(opv x).cells.length=3:=fun _=>rfl
 have r0:zbR l 0=([],0):=rfl
 refine ACall.of_run (raw:=[]) Tryd.func10 rfl Tryd.ntmps10 (by simp) fun hbel => ?_
 refine .q ?_;refine .text ?_;simp (disch:=first|exact za|fail) only [go_sem,seval,-List.reduceReplicate]
 refine .q ?_;refine .text ?_;simp (disch:=first|exact za|fail) only [go_sem,seval,-List.reduceReplicate]
 refine CallK.of (fun R h=>zgi _ R h) ?_;simp (disch:=first|exact za|fail) only [go_sem,seval,-List.reduceReplicate]
 refine .q ?_;refine .text ?_;simp (disch:=first|exact za|fail) only [go_sem,seval,-List.reduceReplicate]
 refine .q ?_;refine .loopE [0,2,3] (fun i=>[(4,.p (i64 i))]) (fun i=>[(H.n+1,.cells [.p (.sl false 1 (pl b8 (zbR l i).1)),.p (i64 (zbR l i).2)])]) (fun i=>True) (0) (min 12 l.length) (by omega) ?_ (by first | rfl | (simp (disch:=first|exact za|fail) only [go_sem,seval,-List.reduceReplicate,r0]<;>rfl)) ?_ ?_ ?_
 · simp (disch:=first|exact za|fail) only [go_sem,seval,-List.reduceReplicate,r0]<;>(repeat' (first | rfl | refine And.intro ?_ ?_))
 · exact trivial
 intro env E hQ;simp (disch:=first|exact za|fail) only [go_sem,seval,-List.reduceReplicate,r0] at E
 rotate_left 1
 intro i env hi0 hi E hQ ihE;simp (disch:=first|exact za|fail) only [go_sem,seval,-List.reduceReplicate,r0] at E
 rotate_left 1
 · unfold ziC at h
   obtain⟨n,hn⟩ : ∃ n,n=min 12 l.length:=⟨_,rfl⟩
   rw [←hn] at h E ⊢
   by_cases c1:l.length≤12
   · have d1:decide ((n:Int) < (l.length:Int))=false:=decide_eq_false (by omega)
     refine .q ?_;refine .text ?_;simp (disch:=first|exact za|fail) only [go_sem,seval,-List.reduceReplicate,E,zc,zh,d1]
     refine .q ?_;refine .ifF (by simp (disch:=first|exact za|fail) only [go_sem,seval,-List.reduceReplicate]) ?_
     refine .q ?_;refine .text ?_;simp (disch:=first|exact za|fail) only [go_sem,seval,-List.reduceReplicate,E,zc,zh]
     refine .q ?_;refine .rt Tryd.func10 (by rw [Tryd.results10]) (hx:=by simp (disch:=first|exact za|fail) only [go_sem,seval,-List.reduceReplicate,E];rfl) (hR := ?_);simp (disch:=first|exact za|fail) only [go_sem,seval,-List.reduceReplicate,E]
     exact h
   · have d1:decide ((n:Int) < (l.length:Int))=true:=decide_eq_true (by omega)
     have d2:decide ((n:Int) < 12)=false:=decide_eq_false (by omega)
     refine .q ?_;refine .text ?_;simp (disch:=first|exact za|fail) only [go_sem,seval,-List.reduceReplicate,E,zc,zh,d1,d2]
     refine .q ?_;refine .ifF (by simp (disch:=first|exact za|fail) only [go_sem,seval,-List.reduceReplicate]) ?_
     refine .q ?_;refine .text ?_;simp (disch:=first|exact za|fail) only [go_sem,seval,-List.reduceReplicate,E,zc,zh]
     refine .q ?_;refine .rt Tryd.func10 (by rw [Tryd.results10]) (hx:=by simp (disch:=first|exact za|fail) only [go_sem,seval,-List.reduceReplicate,E];rfl) (hR := ?_);simp (disch:=first|exact za|fail) only [go_sem,seval,-List.reduceReplicate,E]
     exact h
 · have hil:i < l.length:=by omega
   have d1:decide ((i:Int) < (l.length:Int))=true:=decide_eq_true (by omega)
   have d2:decide ((i:Int) < 12)=true:=decide_eq_true (by omega)
   obtain⟨hws,hle⟩:=ziB (l:=l) (i:=i) (by omega)
   have hnl:l[i]=nth l i:=by simp [nth,hil]
   have hsu:=zhm hil
   rw [hnl] at hsu
   have hap : ∀ (B:Hp) (R:AV → Hp → Prop),R (.p (sto (zbR l (i+1)).1 (zbR l (i+1)).2)) B → ACall Tryd.prog G 35 [.p (sto (zbR l i).1 (zbR l i).2),.p (opv (nth l i))] B R:=fun B R h=>ziA hG0 hG1 (zbR l i).1 (zbR l i).2 (nth l i) hws (by omega) (hx _ (zah hil)) B R (by rw [hsu] at h;exact h)
   have hst:PV.agg [.sl false 1 (pl b8 (zbR l i).1),i64 (zbR l i).2]=sto (zbR l i).1 (zbR l i).2:=rfl
   refine .q ?_;refine .text ?_;simp (disch:=first|exact za|fail) only [go_sem,seval,-List.reduceReplicate,E,zc,zh,d1,d2]
   refine .q ?_;refine .ifT (by simp (disch:=first|exact za|fail) only [go_sem,seval,-List.reduceReplicate]) ?_
   refine .q ?_;refine .openT [6] follows (by kernel_rfl) ?_;simp (disch:=first|exact za|fail) only [go_sem,seval,-List.reduceReplicate,E,zc,zh,hag,how,hol,hst]
   refine CallD.still (fun R h=>hap _ R h) ?_;simp (disch:=first|exact za|fail) only [go_sem,seval,-List.reduceReplicate,E]
   refine .q ?_;refine .text ?_;simp (disch:=first|exact za|fail) only [go_sem,seval,-List.reduceReplicate,E,zc,zh]
   first | (refine ihE _ _ ?_ trivial ?_) | (refine .z rfl ?_;refine ihE _ _ ?_ trivial ?_) | (refine .z rfl ?_;refine .z rfl ?_;refine ihE _ _ ?_ trivial ?_) | (refine .z rfl ?_;refine .z rfl ?_;refine .z rfl ?_;refine ihE _ _ ?_ trivial ?_)
   · simp (disch:=first|exact za|fail) only [go_sem,seval,-List.reduceReplicate,E,zc,zh]<;>(repeat' (first | rfl | refine And.intro ?_ ?_))
   · first | rfl | (simp (disch:=first|exact za|fail) only [go_sem,seval,-List.reduceReplicate,E,zc,zh]<;>(try rfl))
end walks
end Go.Proofs.YtdpfkanfahchjaaDoor

/-
  The log of readings: the streams after each change.
-/
namespace Go.Proofs.YtdpfkanfahchjaaDoor
open Go Go.AL

instance:Inhabited Strm:=⟨z0S⟩
def lst (o:List Strm):Strm:=nth o (o.length - 1)
structure Hs where
 o:List Strm
 y:Nat
def hstep (h:Hs) (x:Op):Hs :=
 ⟨if x.k % 4#8 < 2#8 then (if (chg (lst h.o) x).2=true then h.o++[(chg (lst h.o) x).1] else h.o) else h.o,if x.k % 4#8=2#8 then h.o.length - 1 else h.y⟩
def zw3 (l:List Op) (i:Nat):Hs:=(l.take i).foldl hstep ⟨[z0S],0⟩
def SL (n:Nat) (s:Strm):Prop:=s.gone.length=s.l.length∧s.l.length≤n ∧ ∀ r∈s.l,vR r
theorem SL.mono {s:Strm} {n m:Nat} (h:SL n s) (hm:n≤m):SL m s:=⟨h.1,Nat.le_trans h.2.1 hm,h.2.2⟩
def his (l:List Op):Hs:=zw3 l (min 12 l.length)
structure HhS where
 B:Hp
 i:Nat
structure HI (H:Hp) (l:List Op) (x:HhS):Prop where
 i:x.i≤min 12 l.length
 n:H.n+1≤x.B.n
 f:x.B.f H.n=some (.tail ((zw3 l x.i).o.length - 1))
 tr:x.B.trunc H.n=H
section walks
variable {G:Globs}
end walks
end Go.Proofs.YtdpfkanfahchjaaDoor

/-
  The log of readings: a record with a right digest.
-/
namespace Go.Proofs.YtdpfkanfahchjaaDoor
open Go Go.AL

section walks
variable {G:Globs}
end walks
end Go.Proofs.YtdpfkanfahchjaaDoor

/-
  The log of readings: plain facts for the laws.
-/
namespace Go.Proofs.YtdpfkanfahchjaaDoor
open Go Go.AL

theorem zwr {s s':Strm} {k:BitVec 8} {p:By} (h:zY s k p=some s') (hs : ∀ r∈s.l,vR r) : ∀ r∈s'.l,vR r:=by
 unfold zY at h
 split at h
 · split at h
   · split at h
     · rename_i q
       cases h
       intro r hr
       rcases List.mem_append.1 hr with hr | hr
       · exact hs r hr
       · exact zn5 q.2.2.1 r hr
     · cases h
   · cases h
 · split at h
   · unfold zdn at h
     split at h
     · cases h;exact hs
     · cases h
   · cases h
theorem Log.v {s t:Strm} {b:By} (h:Log s b t) (hs : ∀ r∈s.l,vR r) : ∀ r∈t.l,vR r:=by
 induction h with
 | nil s=>exact hs
 | cons _ h _ ih=>exact ih (zwr h hs)
theorem zxt {d:By} : ∀ r∈(lS d).l,vR r:=zgc.1.v (by intro r hr;cases hr)
theorem ztA {l:List Rdg} (h : ∀ r∈l,vR r) (hl:l.length≤4096):zag (l.length:Int) (pkc l 4)=(l,0):=by
 have hsn:zmF l.length (fun k=>(pkc l 4)[k]?.getD []):=fun k hk=>by
  dsimp only
  rw [zav hk];exact zkp h k hk
 have hseg:zdm l.length (fun k=>(pkc l 4)[k]?.getD [])=l:=by
  have:=zeA h
  unfold zdm at this ⊢
  conv=>rhs;rw [←this]
  apply List.map_congr_left
  intro i _
  simp only [mkR,zav (show 0 < 4 by decide),zav (show 1 < 4 by decide),zav (show 2 < 4 by decide),zav (show 3 < 4 by decide)]
 have hok:zil (l.length:Int) (pkc l 4):=⟨by omega,by omega,zaZ,by rw [Int.toNat_natCast];exact hsn⟩
 unfold zag
 rw [if_pos hok,Int.toNat_natCast]
 exact Prod.ext hseg rfl
def sr0:Rdg:=⟨1,2,3,7⟩
def sr1:Rdg:=⟨1,3,3,7⟩
def sr2:Rdg:=⟨1,4,3,9⟩
def sl3:List Rdg:=[sr0,sr1,sr2]
theorem zkQ : ∀ r∈sl3,vR r:=by
 intro r hr
 simp only [sl3,List.mem_cons,List.not_mem_nil,or_false] at hr
 rcases hr with rfl | rfl | rfl<;>(simp only [vR,sr0,sr1,sr2];omega)
theorem zkR:pkc sl3 4=[[1#8,2#8],[2#8,0#8,3#8,0#8,4#8,0#8],[3#8,2#8],[7#8,1#8,9#8,0#8]]:=by
 have g : ∀ v:BitVec 8,∀ t,yM (v :: t)=(v,lead v t 255) :: yM (t.drop (lead v t 255)):=fun _ _=>zae
 have c0:zx sl3 0=[1#8,1#8,1#8]:=rfl
 have c1:zx sl3 1=[2#8,3#8,4#8]:=rfl
 have c2:zx sl3 2=[3#8,3#8,3#8]:=rfl
 have c3:zx sl3 3=[7#8,7#8,9#8]:=rfl
 have e:pkc sl3 4=[rle (zx sl3 0),rle (zx sl3 1),rle (zx sl3 2),rle (zx sl3 3)]:=rfl
 rw [e,c0,c1,c2,c3]
 simp [rle,zae,zbw,lead,flq]
theorem ztB:lS []=z0S:=by unfold lS;rw [zcH]
theorem ztC:lN []=0:=by unfold lN;rw [zcH];rfl
theorem zws:lE []=0:=by unfold lE;rw [zcH];rfl
noncomputable def sD1:By:=rcd 1#8 (pcl sl3)
noncomputable def sD2:By:=sD1++rcd 2#8 (zW 4 1)
def ss1:Strm:=⟨sl3,[false,false,false]⟩
def ss2:Strm:=⟨sl3,[false,true,false]⟩
theorem zkS:(pcl sl3).length=32:=by
 unfold pcl zmG
 rw [zkR]
 simp [zJ,zv]
theorem zfa:sD1.length=45:=by unfold sD1;rw [zaf,zkS]
theorem ziD:sD2.length=62:=by unfold sD2;rw [List.length_append,zfa,zaf,zv]
theorem zm6:Log z0S sD1 ss1:=by
 have h:=ztv (s:=z0S) (l:=sl3) (by decide) (by decide) zkQ (by decide)
 have:=Log.snoc (a:=[]) (.nil z0S) (by rw [zkS];decide) h
 exact this
theorem zwt:yP ss1 1=(ss2,0):=rfl
theorem zm7:Log z0S sD2 ss2:=by
 have h:=ztw (s:=ss1) (i:=1) (by decide)
 rw [zm3,show yP ss1 ((1:Nat):Int)=(ss2,0) from rfl] at h
 exact Log.snoc zm6 (by rw [zv];decide) h
theorem zw4:zbl ([],0) sl3=((sD1,0),0):=by
 unfold zbl
 rw [if_neg (by rintro (h | h | h);exact absurd h (by decide);exact absurd h (by decide);exact h zkQ)]
 dsimp only
 rw [ztB,ztC,if_neg (by decide)]
 rfl
theorem zxu:rtV (sD1,0) 1=((sD2,0),0):=by
 have h:=zit zm6
 unfold rtV
 dsimp only
 rw [h.1,h.2.1,zwt,if_neg (by decide),List.take_length]
 exact Prod.ext (Prod.ext rfl (by show min (0:Int) _=0;omega)) rfl
theorem zuW:(rtV (sD2,0) 1).2=120:=by
 have h:=zit zm7
 unfold rtV
 dsimp only
 rw [h.1,show yP ss2 1=(z0S,120) from rfl,if_pos (by decide)]
theorem zwu:(rtV (sD2,0) 3).2=4:=by
 have h:=zit zm7
 unfold rtV
 dsimp only
 rw [h.1,show yP ss2 3=(z0S,4) from rfl,if_pos (by decide)]
theorem zuX:(zbl (sD1,0) []).2=1:=by
 unfold zbl
 rw [if_pos (.inl (by decide))]
def sr9:Rdg:=⟨99,0,0,0⟩
theorem zw6:(zbl (sD1,0) [sr9]).2=1:=by
 unfold zbl
 rw [if_pos (.inr (.inr fun h=>absurd (h sr9 (by simp)) (by decide)))]
theorem zw7:sD2.take 61=sD1++(rcd 2#8 (zW 4 1)).take 16:=by
 unfold sD2
 rw [List.take_append,zfa,List.take_of_length_le (by rw [zfa];decide)]
theorem zwv:lS (sD2.take 61)=ss1∧lN (sD2.take 61)=45∧lE (sD2.take 61)=270:=by
 have hr:(rcd 2#8 (zW 4 1)).length=17:=by rw [zaf,zv]
 have hl:((rcd 2#8 (zW 4 1)).take 16).length=16:=by rw [List.length_take,hr];rfl
 have hc:=zuv (k:=2#8) (p:=zW 4 1) (r:=[]) (n:=16) (by rw [zv];decide) (by rw [zv];decide)
 rw [List.append_nil] at hc
 have h:ld z0S (sD2.take 61)=(ss1,16,false):=by
  rw [zw7,zs7 zm6,zdQ (by rw [hl];decide) hc,hl]
 have hl2:(sD2.take 61).length=61:=by rw [List.length_take,ziD];rfl
 unfold lS lN lE
 rw [h,hl2]
 exact⟨rfl,rfl,rfl⟩
theorem zw8:crN sD2 0 61=61:=by unfold crN;rw [ziD];rfl
theorem zw9:zag 1 [[1#8],[1#8,0#8],[1#8,0#8],[1#8,0#8]]=([],270):=by
 unfold zag
 rw [if_neg]
 rintro ⟨_,_,_,h⟩
 exact absurd (h 0 (by decide)).1 (by decide)
theorem zuY:zag 2 [[1#8,0#8,1#8,0#8],[1#8,1#8],[1#8,1#8],[1#8,1#8]]=([],270):=by
 unfold zag
 rw [if_neg]
 rintro ⟨_,_,_,h⟩
 have:=(h 0 (by decide)).2.2.1
 exact absurd (this.2.1 rfl) (by decide)
end Go.Proofs.YtdpfkanfahchjaaDoor

/-
  The log of readings: the fixed examples of the laws.
-/
namespace Go.Proofs.YtdpfkanfahchjaaDoor
open Go Go.AL

def sC1:List By:=[[1#8],[1#8,0#8],[1#8,0#8],[1#8,0#8]]
def sC2:List By:=[[1#8,0#8,1#8,0#8],[1#8,1#8],[1#8,1#8],[1#8,1#8]]
theorem s_odd':zag 1 sC1=([],270):=zw9
theorem s_split':zag 2 sC2=([],270):=zuY
theorem eqR {a b:Rdg} (ha:vR a) (hb:vR b):zo Tryd.prog .eql 24 (.p (zy a)) (.p (zy b))=some (.p (bo (decide (a=b)))):=by
 have h:=neR ha hb
 have f1 : ∀ P t xs ys,zo P .eql t (.p (.agg xs)) (.p (.agg ys))=(zcq P t xs ys).map fun r => .p (.s (.bool r)):=fun _ _ _ _=>rfl
 have f2 : ∀ P t xs ys,zo P .neq t (.p (.agg xs)) (.p (.agg ys))=(zcq P t xs ys).map fun r => .p (.s (.bool !r)):=fun _ _ _ _=>rfl
 unfold zy at h ⊢
 rw [f2] at h
 rw [f1]
 cases e:zcq Tryd.prog 24 (rdL a) (rdL b) with
 | none=>rw [e] at h;cases h
 | some r =>
  rw [e] at h
  simp only [Option.map_some,bo,Option.some.injEq,AV.p.injEq,PV.s.injEq,Value.bool.injEq] at h
  have:r=decide (a=b):=by
   cases r<;>cases hd:decide (a=b)<;>simp_all
  rw [this];rfl
section walks
variable {G:Globs}
set_option maxHeartbeats 4000000 in
set_option maxRecDepth 20000 in
theorem zgj (d:By) (s0:Int) (H:Hp) (R:AV → Hp → Prop) (h:R (.tup [.p (sto [] 0),.p (i64 1)]) H):ACall Tryd.prog G 13 [.p (sto d s0),.p (.s (.slice none 0 0))] H R:=by
 refine ACall.of_run (raw:=[]) Tryd.func13 rfl Tryd.ntmps13 (by simp) fun hbel => ?_
 refine .nilS 1 4 rfl ?_
 refine .q ?_;refine .text ?_;simp (disch:=first|exact za|fail) only [go_sem,seval,-List.reduceReplicate]
 refine .q ?_;refine .text ?_;simp (disch:=first|exact za|fail) only [go_sem,seval,-List.reduceReplicate]
 have d1:decide ((([]:List PV).length:Int) < 1)=true:=rfl
 refine .q ?_;refine .text ?_;simp (disch:=first|exact za|fail) only [go_sem,seval,-List.reduceReplicate,d1]
 refine .q ?_;refine .ifT (by simp (disch:=first|exact za|fail) only [go_sem,seval,-List.reduceReplicate]) ?_
 refine .q ?_;refine .text ?_;simp (disch:=first|exact za|fail) only [go_sem,seval,-List.reduceReplicate]
 refine .q ?_;refine .rt Tryd.func13 (by rw [Tryd.results13]) (hR := ?_);simp (disch:=first|exact za|fail) only [go_sem,seval,-List.reduceReplicate]
 exact h
set_option maxHeartbeats 16000000 in
set_option maxRecDepth 40000 in
theorem zkT (hG0:G 0=some (8,[.agg (pl zw inits)])) (hG1:G 1=some (64,[.agg (pl zw ks)])) (H:Hp) (R:AV → Hp → Prop) (h:R (.p (bo true)) H):ACall Tryd.prog G 9 [] H R:=by
 have hlit:[PV.agg [i64 1,i64 2,i64 3,i64 7],PV.agg [i64 1,i64 3,i64 3,i64 7],PV.agg [i64 1,i64 4,i64 3,i64 9]]=pl zy sl3:=rfl
 have hsl:sl3.length=3:=rfl
 refine ACall.of_run (raw:=[]) Tryd.func9 rfl Tryd.ntmps9 (by simp) fun hbel => ?_
 refine .q ?_;refine .text ?_;simp (disch:=first|exact za|fail) only [go_sem,seval,-List.reduceReplicate,hlit]
 refine .q ?_;refine .text ?_;simp (disch:=first|exact za|fail) only [go_sem,seval,-List.reduceReplicate,hlit]
 refine .q ?_;refine .text ?_;simp (disch:=first|exact za|fail) only [go_sem,seval,-List.reduceReplicate]
 refine CallK.of (fun R h=>zhe sl3 (by decide) _ R h) ?_;simp (disch:=first|exact za|fail) only [go_sem,seval,-List.reduceReplicate,hsl]
 refine .q ?_;refine .text ?_;simp (disch:=first|exact za|fail) only [go_sem,seval,-List.reduceReplicate]
 refine CallK.of (fun R h=>zbz 3 (pkc sl3 4) (fun c hc=>Nat.le_trans (ziu c hc) (by decide)) _ R h) ?_;simp (disch:=first|exact za|fail) only [go_sem,seval,-List.reduceReplicate]
 have hu:zag 3 (pkc sl3 4)=(sl3,0):=ztA zkQ (by decide)
 rw [hu]
 simp (disch:=first|exact za|fail) only [go_sem,seval,-List.reduceReplicate]
 refine .q ?_;refine .text ?_;simp (disch:=first|exact za|fail) only [go_sem,seval,-List.reduceReplicate]
 refine CallK.of (fun R h=>zgi _ R h) ?_;simp (disch:=first|exact za|fail) only [go_sem,seval,-List.reduceReplicate]
 have hsw : ∀ d s,(sto d s).weak=sto d s:=fun _ _=>rfl
 have hseg : ∀ r c,(seg r c).weak=seg r c:=fun _ _=>rfl
 simp (disch:=first|exact za|fail) only [go_sem,seval,-List.reduceReplicate,hsw]
 refine CallK.of (fun R h=>zas hG0 hG1 [] 0 (by decide) _ R h) ?_;simp (disch:=first|exact za|fail) only [go_sem,seval,-List.reduceReplicate,ztB,ztC,zws]
 refine .q ?_;refine .text ?_;simp (disch:=first|exact za|fail) only [go_sem,seval,-List.reduceReplicate]
 refine CallK.of (fun R h=>zgi _ R h) ?_;simp (disch:=first|exact za|fail) only [go_sem,seval,-List.reduceReplicate,hsw]
 refine CallK.of (fun R h=>zaw hG0 hG1 [] 0 sl3 (by decide) (by decide) _ R h) ?_;simp (disch:=first|exact za|fail) only [go_sem,seval,-List.reduceReplicate,zw4]
 have hd1:=zfa
 have hd2:=ziD
 obtain⟨D1,hD1⟩ : ∃ D,D=sD1:=⟨_,rfl⟩
 obtain⟨D2,hD2⟩ : ∃ D,D=sD2:=⟨_,rfl⟩
 have e_rt:=zxu
 have e_again:=zuW
 have e_none:=zwu
 have e_empty:=zuX
 have e_bad:=zw6
 have e_log:=zit zm7
 have e_torn:=zwv
 have e_crN:=zw8
 rw [←hD1] at hd1 e_rt e_empty e_bad ⊢
 rw [←hD2] at hd2 e_rt e_again e_none e_log e_torn e_crN
 refine .q ?_;refine .text ?_;simp (disch:=first|exact za|fail) only [go_sem,seval,-List.reduceReplicate,hsw]
 refine CallK.of (fun R h=>yG hG0 hG1 D1 0 1 (by omega) _ R h) ?_;simp (disch:=first|exact za|fail) only [go_sem,seval,-List.reduceReplicate,e_rt]
 refine .q ?_;refine .text ?_;simp (disch:=first|exact za|fail) only [go_sem,seval,-List.reduceReplicate,hsw]
 obtain⟨A1,a1⟩ : ∃ A:Sto,rtV (D2,0) 1=(A,120):=⟨_,Prod.ext rfl e_again⟩
 obtain⟨A2,a2⟩ : ∃ A:Sto,rtV (D2,0) 3=(A,4):=⟨_,Prod.ext rfl e_none⟩
 obtain⟨A4,a4⟩ : ∃ A:Sto,zbl (D1,0) [sr9]=(A,1):=⟨_,Prod.ext rfl e_bad⟩
 refine CallK.of (fun R h=>yG hG0 hG1 D2 0 1 (by omega) _ R h) ?_;simp (disch:=first|exact za|fail) only [go_sem,seval,-List.reduceReplicate,a1]
 refine .q ?_;refine .text ?_;simp (disch:=first|exact za|fail) only [go_sem,seval,-List.reduceReplicate,hsw]
 refine CallK.of (fun R h=>yG hG0 hG1 D2 0 3 (by omega) _ R h) ?_;simp (disch:=first|exact za|fail) only [go_sem,seval,-List.reduceReplicate,a2]
 refine .q ?_;refine .text ?_;simp (disch:=first|exact za|fail) only [go_sem,seval,-List.reduceReplicate,hsw]
 refine CallK.of (fun R h=>zgj D1 0 _ R h) ?_;simp (disch:=first|exact za|fail) only [go_sem,seval,-List.reduceReplicate]
 have hl9:[PV.agg [i64 99,i64 0,i64 0,i64 0]]=pl zy [sr9]:=rfl
 refine .q ?_;refine .text ?_;simp (disch:=first|exact za|fail) only [go_sem,seval,-List.reduceReplicate,hsw,hl9]
 refine CallK.of (fun R h=>zaw hG0 hG1 D1 0 [sr9] (by omega) (by decide) _ R h) ?_;simp (disch:=first|exact za|fail) only [go_sem,seval,-List.reduceReplicate,a4]
 refine .q ?_;refine .text ?_;simp (disch:=first|exact za|fail) only [go_sem,seval,-List.reduceReplicate,hsw]
 refine CallK.of (fun R h=>zas hG0 hG1 D2 0 (by omega) _ R h) ?_;simp (disch:=first|exact za|fail) only [go_sem,seval,-List.reduceReplicate,e_log.1,e_log.2.1,e_log.2.2]
 have h61:(D2.length:Int) - 1=61:=by omega
 refine .q ?_;refine .text ?_;simp (disch:=first|exact za|fail) only [go_sem,seval,-List.reduceReplicate,hsw,h61]
 refine CallK.of (fun R h=>zdo D2 0 61 ⟨by omega,by omega⟩ (by omega) ⟨by omega,by omega⟩ _ R h) ?_;simp (disch:=first|exact za|fail) only [go_sem,seval,-List.reduceReplicate,e_crN,hsw]
 have h61l:(D2.take 61).length≤140737488353000:=by rw [List.length_take];omega
 refine CallK.of (fun R h=>zas hG0 hG1 (D2.take 61) 61 h61l _ R h) ?_;simp (disch:=first|exact za|fail) only [go_sem,seval,-List.reduceReplicate,e_torn.1,e_torn.2.1,e_torn.2.2]
 refine .q ?_;refine .text ?_;simp (disch:=first|exact za|fail) only [go_sem,seval,-List.reduceReplicate]
 refine CallK.of (fun R h=>zbz 1 sC1 (by decide) _ R h) ?_;simp (disch:=first|exact za|fail) only [go_sem,seval,-List.reduceReplicate,s_odd']
 refine .q ?_;refine .text ?_;simp (disch:=first|exact za|fail) only [go_sem,seval,-List.reduceReplicate]
 refine CallK.of (fun R h=>zbz 2 sC2 (by decide) _ R h) ?_;simp (disch:=first|exact za|fail) only [go_sem,seval,-List.reduceReplicate,s_split']
 have hpk:(pkc sl3 4).length=4:=zaZ
 have hg2:ss2.gone.length=3:=rfl
 refine .q ?_;refine .text ?_;simp (disch:=first|exact za|fail) only [go_sem,seval,-List.reduceReplicate,hpk,hsl,hg2]
 refine .q ?_;refine .ifF (by simp (disch:=first|exact za|fail) only [go_sem,seval,-List.reduceReplicate]) ?_
 refine .skip ?_
 have hc:=zkR
 obtain⟨c3,hc3'⟩ : ∃ c:By,c=[7#8,1#8,9#8,0#8]:=⟨_,rfl⟩
 obtain⟨c0,hc0'⟩ : ∃ c:By,c=[1#8,2#8]:=⟨_,rfl⟩
 have hc3:nth (pkc sl3 4) 3=c3:=by rw [hc,hc3'];rfl
 have hc0:nth (pkc sl3 4) 0=c0:=by rw [hc,hc0'];rfl
 have hb3:[b8 7#8,b8 1#8,b8 9#8,b8 0#8]=pl b8 c3:=by rw [hc3'];rfl
 have hb0:[b8 1#8,b8 2#8]=pl b8 c0:=by rw [hc0'];rfl
 have hal : ∀ c:By,((pl b8 c).all fun x=>x.cells.length == 1)=true:=fun c=>by
  rw [List.all_eq_true];intro x hx;simp only [pl,List.mem_map] at hx;obtain⟨y,_,rfl⟩:=hx;rfl
 have hpw : ∀ c:By,(pl b8 c).map PV.weak=pl b8 c:=fun c=>zcP fun _=>rfl
 have hrw : ∀ r,(zy r).weak=zy r:=fun _=>rfl
 have hrc : ∀ r,(zy r).cells.length=4:=fun _=>rfl
 have hr2:(⟨1,4,3,9⟩:Rdg)=sr2:=rfl
 have hdq : ∀ c:By,decide (c=c)=true:=fun c=>by simp
 have hz:z0S.l.length=0:=rfl
 have hg1:nth ss2.gone 1=true:=rfl
 have hg0:nth ss2.gone 0=false:=rfl
 have hs1:ss1.l.length=3:=rfl
 have hag : ∀ r,(zy r).aggOf 0 4=zy r:=fun _=>rfl
 have hn2:nth sl3 2=sr2:=rfl
 have heq:zo Tryd.prog .eql 24 (.p (zy sr2)) (.p (zy sr2))=some (.p (bo true)):=by
  rw [eqR (zkQ _ (by simp [sl3])) (zkQ _ (by simp [sl3]))];simp
 refine .q ?_;refine .openStill follows (by kernel_rfl) ?_;simp (disch:=first|exact za|fail) only [go_sem,seval,-List.reduceReplicate,List.append_eq,hrw,hrc,hr2,hal,hpw,hb3,hb0,hdq,hpk,hsl,hg2,hc3,hc0,hz,hg1,hg0,hs1,hd1,hd2,hag,hn2,heq,yp,zdX]
 refine CallD.still (fun R h=>zek D1 0 _ R h) ?_;simp (disch:=first|exact za|fail) only [go_sem,seval,-List.reduceReplicate,List.append_eq,hsw,hd1]
 refine CallD.still (fun R h=>yF D1 D1 45 45 _ R h) ?_;simp (disch:=first|exact za|fail) only [go_sem,seval,-List.reduceReplicate,List.append_eq,hdq]
 refine .q ?_;refine .rt Tryd.func9 (by rw [Tryd.results9]) (hR := ?_);simp (disch:=first|exact za|fail) only [go_sem,seval,-List.reduceReplicate]
 exact h
end walks
end Go.Proofs.YtdpfkanfahchjaaDoor

/-
  The log of readings: the law MatchesReference.
-/
namespace Go.Proofs.YtdpfkanfahchjaaDoor
open Go Go.AL

def i16 (z:Int):PV := .s (.int .i16 z)
section walks
variable {G:Globs}
set_option maxHeartbeats 16000000 in
set_option maxRecDepth 40000 in
theorem zp3 (hG0:G 0=some (8,[.agg (pl zw inits)])) (hG1:G 1=some (64,[.agg (pl zw ks)])) (l:List Op) (r:Rdg) (z:Int) (hz : -32768≤z∧z≤32767) (hl:l.length≤9223372036854775807) (hx : ∀ x∈l,x.l.length≤9223372036854775807) (H:Hp) (R:AV → Hp → Prop) (h:R (.p (bo true)) H) :
 ACall Tryd.prog G 3 [.p (.sl false 3 (pl opv l)),.p (zy r),.p (i16 z)] H R:=by
 have hcv : ∀ B,yq Tryd.prog B 25 3 (.p (i16 z))=some (.p (i64 z)):=fun B=>by
  have:yq Tryd.prog B 25 3 (.p (i16 z))=some (.p (i64 (IntKind.i64.wrap z))):=rfl
  rw [this,yz (by omega) (by omega)]
 have hsw : ∀ d s,(sto d s).weak=sto d s:=fun _ _=>rfl
 obtain⟨hws,hrl⟩:=zuV (l:=l)
 obtain⟨d,hd⟩ : ∃ d,d=(ziC l).1:=⟨_,rfl⟩
 obtain⟨s,hs⟩ : ∃ s,s=(ziC l).2:=⟨_,rfl⟩
 have hrun : ∀ (B:Hp) (R:AV → Hp → Prop),R (.p (sto d s)) B → ACall Tryd.prog G 10 [.p (.sl false 3 (pl opv l))] B R:=fun B R h=>ztz hG0 hG1 l hl hx B R (by rw [←hd,←hs];exact h)
 rw [show ziC l=(d,s) by rw [hd,hs]] at hws hrl
 obtain⟨hs0,hs1⟩:=hws
 dsimp only at hs0 hs1 hrl
 have hrc:zi (.p (zy r))=some [.p (i64 r.who),.p (i64 r.whn),.p (i64 r.knd),.p (i64 r.val)]:=rfl
 have hrr:PV.agg [i64 r.who,i64 r.whn,i64 r.knd,i64 r.val]=zy r:=rfl
 have h2r:[zy r,zy r]=pl zy [r,r]:=rfl
 refine ACall.of_run (raw:=[]) Tryd.func3 rfl Tryd.ntmps3 (by simp) fun hbel => ?_
 refine .q ?_;refine .text ?_;simp (disch:=first|exact za|fail) only [go_sem,seval,-List.reduceReplicate,hrc]
 refine .q ?_;refine .text ?_;simp (disch:=first|exact za|fail) only [go_sem,seval,-List.reduceReplicate]
 refine CallK.of (fun R h=>zkT hG0 hG1 _ R h) ?_;simp (disch:=first|exact za|fail) only [go_sem,seval,-List.reduceReplicate]
 refine .q ?_;refine .text ?_;simp (disch:=first|exact za|fail) only [go_sem,seval,-List.reduceReplicate]
 refine CallK.of (fun R h=>hrun _ R h) ?_;simp (disch:=first|exact za|fail) only [go_sem,seval,-List.reduceReplicate]
 have d1:decide (s < 0)=false:=decide_eq_false (by omega)
 have d2:decide ((d.length:Int) < s)=false:=decide_eq_false (by omega)
 refine .q ?_;refine .text ?_;simp (disch:=first|exact za|fail) only [go_sem,seval,-List.reduceReplicate,d1,d2]
 refine .q ?_;refine .ifF (by simp (disch:=first|exact za|fail) only [go_sem,seval,-List.reduceReplicate]) ?_
 refine .skip ?_
 refine .q ?_;refine .text ?_;simp (disch:=first|exact za|fail) only [go_sem,seval,-List.reduceReplicate,hsw]
 have hall:((pl zy [r,r]).all fun x=>x.cells.length == 4)=true:=rfl
 have hr2:[r,r].length≤100000:=by show 2≤100000;decide
 have hmw : ∀ s,(stm s).weak=stm s:=fun _=>rfl
 obtain⟨S,hS⟩ : ∃ S,S=lS d:=⟨_,rfl⟩
 obtain⟨N,hN⟩ : ∃ N,N=lN d:=⟨_,rfl⟩
 obtain⟨E,hE⟩ : ∃ E,E=lE d:=⟨_,rfl⟩
 have hSv : ∀ r∈S.l,vR r:=by rw [hS];exact zxt
 have hSk:SOk S:=by rw [hS];exact zhk
 have hSl:=hSk.2
 have hSg:=hSk.1
 obtain⟨A,hA⟩ : ∃ A,A=zbl (d,s) [r,r]:=⟨_,rfl⟩
 obtain⟨B,hB⟩ : ∃ B,B=rtV (d,s) z:=⟨_,rfl⟩
 refine CallK.of (fun R h=>zas hG0 hG1 d s (by omega) _ R h) ?_;simp (disch:=first|exact za|fail) only [go_sem,seval,-List.reduceReplicate,←hS,←hN,←hE]
 refine .q ?_;refine .text ?_;simp (disch:=first|exact za|fail) only [go_sem,seval,-List.reduceReplicate,hsw]
 refine CallK.of (fun R h=>zdr d s (by omega) _ R h) ?_;simp (disch:=first|exact za|fail) only [go_sem,seval,-List.reduceReplicate,←hS,←hN,←hE]
 refine .q ?_;refine .text ?_;simp (disch:=first|exact za|fail) only [go_sem,seval,-List.reduceReplicate,hsw,hrr,h2r,hall,yY]
 refine CallK.of (fun R h=>zaw hG0 hG1 d s [r,r] (by omega) hr2 _ R h) ?_;simp (disch:=first|exact za|fail) only [go_sem,seval,-List.reduceReplicate,←hA]
 refine .q ?_;refine .text ?_;simp (disch:=first|exact za|fail) only [go_sem,seval,-List.reduceReplicate,hsw,hrr,h2r,hall,yY]
 refine CallK.of (fun R h=>ziz d s [r,r] (by omega) hr2 _ R h) ?_;simp (disch:=first|exact za|fail) only [go_sem,seval,-List.reduceReplicate,←hA]
 refine .q ?_;refine .text ?_;simp (disch:=first|exact za|fail) only [go_sem,seval,-List.reduceReplicate,hsw,hcv]
 refine CallK.of (fun R h=>yG hG0 hG1 d s z (by omega) _ R h) ?_;simp (disch:=first|exact za|fail) only [go_sem,seval,-List.reduceReplicate,←hB]
 refine .q ?_;refine .text ?_;simp (disch:=first|exact za|fail) only [go_sem,seval,-List.reduceReplicate,hsw,hcv]
 refine CallK.of (fun R h=>zeV d s z (by omega) _ R h) ?_;simp (disch:=first|exact za|fail) only [go_sem,seval,-List.reduceReplicate,←hB]
 have hdq : ∀ c:By,decide (c=c)=true:=fun c=>by simp
 have hds:decide (S=S)=true:=by simp
 refine .q ?_;refine .openStill follows (by kernel_rfl) ?_;simp (disch:=first|exact za|fail) only [go_sem,seval,-List.reduceReplicate,List.append_eq,hmw]
 refine CallD.still (fun R h=>zm5 S S hSv hSv (by omega) (by omega) _ R h) ?_;simp (disch:=first|exact za|fail) only [go_sem,seval,-List.reduceReplicate,List.append_eq,hds]
 refine CallD.still (fun R h=>yF A.1.1 A.1.1 A.1.2 A.1.2 _ R h) ?_;simp (disch:=first|exact za|fail) only [go_sem,seval,-List.reduceReplicate,List.append_eq,hdq]
 refine CallD.still (fun R h=>yF B.1.1 B.1.1 B.1.2 B.1.2 _ R h) ?_;simp (disch:=first|exact za|fail) only [go_sem,seval,-List.reduceReplicate,List.append_eq,hdq]
 refine CallD.still (fun R h=>zek d s _ R h) ?_;simp (disch:=first|exact za|fail) only [go_sem,seval,-List.reduceReplicate,List.append_eq,hsw]
 refine CallD.still (fun R h=>zmO d s _ R h) ?_;simp (disch:=first|exact za|fail) only [go_sem,seval,-List.reduceReplicate,List.append_eq,hsw]
 refine CallD.still (fun R h=>yF d d d.length d.length _ R h) ?_;simp (disch:=first|exact za|fail) only [go_sem,seval,-List.reduceReplicate,List.append_eq,hdq,hcv]
 refine CallD.still (fun R h=>zdo d s z ⟨hs0,hs1⟩ (by omega) ⟨by omega,by omega⟩ _ R h) ?_;simp (disch:=first|exact za|fail) only [go_sem,seval,-List.reduceReplicate,List.append_eq,hcv,hsw]
 refine CallD.still (fun R h=>zkC d s z ⟨hs0,hs1⟩ (by omega) ⟨by omega,by omega⟩ _ R h) ?_;simp (disch:=first|exact za|fail) only [go_sem,seval,-List.reduceReplicate,List.append_eq,hcv,hsw]
 refine CallD.still (fun R h=>yF (d.take (crN d s z)) (d.take (crN d s z)) (crN d s z:Nat) (crN d s z:Nat) _ R h) ?_;simp (disch:=first|exact za|fail) only [go_sem,seval,-List.reduceReplicate,List.append_eq,hdq]
 refine .q ?_;refine .rt Tryd.func3 (by rw [Tryd.results3]) (hR := ?_);simp (disch:=first|exact za|fail) only [go_sem,seval,-List.reduceReplicate]
 exact h
end walks
end Go.Proofs.YtdpfkanfahchjaaDoor

/-
  The log of readings: what the laws' rows give their walks: the tables,a world for the witness,what the arguments read as.
-/
namespace Go.Proofs.YtdpfkanfahchjaaDoor
open Go Go.AL Go.ChangeShapes Go.WideShapes Go.ChangeAt Go.RowKit

theorem own:ownKnob Tryd.prog.godebug=none:=by kernel_rfl
theorem laidOut:laidOutB Tryd.prog=true:=by kernel_rfl
def nI:String:=Rows.colstoreMatchesReferenceRow.named[0]!
def nC:String:=Rows.colstoreMatchesReferenceRow.named[1]!
theorem ztD:Tryd.prog.globalNamed nC=some 1:=by kernel_rfl
theorem zu9:Tryd.prog.globalNamed nI=some 0:=by kernel_rfl
theorem zuZ:(Tryd.prog.globals[1]?).map (·.type)=some 148:=by kernel_rfl
theorem zww:(Tryd.prog.globals[0]?).map (·.type)=some 133:=by kernel_rfl
def kz:List Int:=ks.map fun x=>(x.toNat:Int)
def iz:List Int:=inits.map fun x=>(x.toNat:Int)
theorem ztE {P:Program} {x:String × DataW Unit} {l:List (String × DataW Unit)} {W:World} (h:laidMet P (x :: l) W):laidMet P l W:=by
 obtain⟨ps,⟨g',t',cs,fuel,p,q,_,_,_,_,hq,hps⟩,hn,ha⟩:=h
 subst hps
 exact⟨q,hq,(List.nodup_append.1 hn).2.1,fun b off hb=>ha b off (List.mem_append_right _ hb)⟩
theorem tables {W:World} (h:laidMetH Tryd.prog Rows.colstoreMatchesReferenceRow.laid W):Lib.TabIs Tryd.prog W nC .u32 kz∧Lib.TabIs Tryd.prog W nI .u32 iz:=by
 have h:laidMet Tryd.prog [(nC,Lib.tabData .u32 kz),(nI,Lib.tabData .u32 iz)] W:=h
 have h2:=ztE h
 exact⟨Lib.tabIs_of_head ztD zuZ Tryd.underlying148 Tryd.underlying132 zfY zkb h,
  Lib.tabIs_of_head zu9 zww Tryd.underlying133 Tryd.underlying132 zfY zj9 h2⟩
def GG:Globs:=⟨fun g=>if g=0 then some (8,[.agg (pl zw inits)]) else if g=1 then some (64,[.agg (pl zw ks)]) else none,fun _=>none⟩
theorem zxv:GG 0=some (8,[.agg (pl zw inits)]):=rfl
theorem zxw:GG 1=some (64,[.agg (pl zw ks)]):=rfl
theorem zp4 {W:World} (h:laidMetH Tryd.prog Rows.colstoreMatchesReferenceRow.laid W):Rel GG σ0 H0 W:=zxe (fun g sz xs hg=>by
 obtain⟨h1,h0⟩:=tables h
 simp only [GG] at hg
 split at hg
 · rename_i e;subst e;cases hg
   exact zfL (l:=inits) h0 zu9 rfl (by decide)
 · split at hg
   · rename_i e;subst e;cases hg
     exact zfL (l:=ks) h1 ztD rfl (by decide)
   · cases hg) fun r m hm=>by cases hm
noncomputable def laidWorld (os:Os):World :=
 let w:=World.holding Tryd.prog os ⟨#[],#[],[]⟩
 { w with heap:=(w.heap.modify 0 fun
  | .cells _ t frozen => .cells (iz.map fun z=>Value.int .u32 z).toArray t frozen
  | o=>o).modify 1 fun
  | .cells _ t frozen => .cells (kz.map fun z=>Value.int .u32 z).toArray t frozen
  | o=>o }
set_option maxRecDepth 100000 in
theorem laid_met (os:Os) (args:Array Value):laidMet Tryd.prog Rows.colstoreMatchesReferenceRow.laid ((laidWorld os).forCall (fun _ _=>0) ⟨#[],args,[]⟩).memory :=
 laidMet_of_run' 8 (by kernel_rfl) (by kernel_rfl)

set_option maxRecDepth 100000
section read
variable {k:Nat} {y:List PV}
theorem zu0 (h:Reads Tryd.prog (k+3) 61 y) : ∃ l:List T3,l.length≤9223372036854775807∧y=[.sl false 3 (pl tri l)]:=by
 obtain⟨l,h1,rfl,-⟩:=Reads.sl tri (fun _=>True) Tryd.underlying61 znA zrp h fun y hy=>by
  obtain⟨l,h1,rfl⟩:=Reads.arr b8 Tryd.underlying63 hy fun y hy=>Reads.u8 Tryd.underlying5 hy
  match l,h1 with
  | [a,b,c],_=>exact⟨(a,b,c),rfl,trivial⟩
 exact⟨l,h1,rfl⟩
theorem zxa (h:Reads Tryd.prog (k+4) 74 y) : ∃ x:Op,zbt true y=opv x∧x.l.length≤9223372036854775807:=by
 obtain⟨y1,z1,rfl,-,r1,y2,z2,rfl,-,r2,y3,z3,rfl,-,r3,rfl⟩:=Reads.struct Tryd.underlying74 h
 obtain⟨a,rfl⟩:=Reads.u8 Tryd.underlying5 r1
 obtain⟨l,h1,rfl⟩:=zu0 r2
 obtain⟨c,rfl⟩:=Reads.u16 Tryd.underlying46 r3
 exact⟨⟨a,l,c⟩,rfl,h1⟩
theorem zwx (h:Reads Tryd.prog (k+5) 22 y) : ∃ l:List Op,l.length≤9223372036854775807∧y=[.sl false 3 (pl opv l)] ∧ ∀ x∈l,x.l.length≤9223372036854775807 :=
 Reads.sl opv (fun x=>x.l.length≤9223372036854775807) Tryd.underlying22 znB zrq h fun y hy=>zxa hy
theorem zwy (h:Reads Tryd.prog (k+1) 25 y) : ∃ z:Int,(-32768≤z∧z≤32767)∧y=[.s (.int .i16 z)]:=by
 simp only [Reads,Tryd.underlying25] at h
 obtain⟨n,hw,rfl⟩:=h
 simp only [Lit.wf,Bool.and_eq_true,decide_eq_true_eq] at hw
 have h1:IntKind.i16.min = -32768:=by decide
 have h2:IntKind.i16.max=32767:=by decide
 rw [h1,h2] at hw
 exact⟨n,hw,rfl⟩
end read
section rel
variable {W:World} {v:Value} {H:Type} {enc:TypeId × Value → H} {d:DataW H} {ps:List MemPlace} {base:Nat}
theorem zu1 (hval:Value.okWide Tryd.prog W .any base 22 v) (h:DataW.Trod enc Tryd.prog W 0 (fun _=>true) true 22 v d ps) :
 ∃ l:List Op,l.length≤9223372036854775807∧(∀ x∈l,x.l.length≤9223372036854775807)∧RelV σ0 H0 W (.p (.sl false 3 (pl opv l))) v:=by
 obtain⟨xs,hx,e⟩:=zfM 8 (by kernel_rfl) hval h
 obtain⟨l,h1,rfl,h2⟩:=zwx (k:=3) hx
 rw [zrm] at e
 exact⟨l,h1,h2,e⟩
theorem zkU (hval:Value.okWide Tryd.prog W .any base 24 v) (h:DataW.Trod enc Tryd.prog W 0 (fun _=>true) true 24 v d ps) :
 ∃ r:Rdg,RelV σ0 H0 W (.p (zy r)) v:=by
 obtain⟨xs,hx,e⟩:=zfM 8 (by kernel_rfl) hval h
 obtain⟨y1,z1,rfl,-,r1,y2,z2,rfl,-,r2,y3,z3,rfl,-,r3,y4,z4,rfl,-,r4,rfl⟩:=Reads.struct (k:=7) Tryd.underlying24 hx
 obtain⟨a,-,-,rfl⟩:=Reads.i64 Tryd.underlying3 r1
 obtain⟨b,-,-,rfl⟩:=Reads.i64 Tryd.underlying3 r2
 obtain⟨c,-,-,rfl⟩:=Reads.i64 Tryd.underlying3 r3
 obtain⟨f,-,-,rfl⟩:=Reads.i64 Tryd.underlying3 r4
 rw [zrn] at e
 exact⟨⟨a,b,c,f⟩,e⟩
theorem zu2 (hval:Value.okWide Tryd.prog W .any base 25 v) (h:DataW.Trod enc Tryd.prog W 0 (fun _=>true) true 25 v d ps) : ∃ z:Int,(-32768≤z∧z≤32767)∧RelV σ0 H0 W (.p (.s (.int .i16 z))) v:=by
 obtain⟨xs,hx,e⟩:=zfM 1 (by kernel_rfl) hval h
 obtain⟨z,h1,rfl⟩:=zwy (k:=0) hx
 rw [zro] at e
 exact⟨z,h1,e⟩
end rel
end Go.Proofs.YtdpfkanfahchjaaDoor
