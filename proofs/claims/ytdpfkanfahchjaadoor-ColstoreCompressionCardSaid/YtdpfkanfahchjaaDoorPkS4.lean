/-
  The log of readings: the law Corruption.
-/
import Derived.Test.YtdpfkanfahchjaaDoorPkS3
set_option linter.unusedSimpArgs false
set_option linter.unusedVariables false
namespace Go.Proofs.YtdpfkanfahchjaaDoor
open Go Go.AL

section walks
variable {G:Globs}
set_option maxHeartbeats 16000000 in
set_option maxRecDepth 40000 in
theorem zqy (hG0:G 0=some (8,[.agg (pl zy inits)])) (hG1:G 1=some (64,[.agg (pl zy ks)])) (l:List Op) (w:BitVec 16) (x:BitVec 8) (hl:l.length≤9223372036854775807) (hx : ∀ x∈l,x.l.length≤9223372036854775807) (H:Hp) (R:AV → Hp → Prop) (h:R (.p (bo true)) H) :
 ACall Tryd.prog G 6 [.p (.sl false 3 (pl opv l)),.p (w16 w),.p (b8 x)] H R:=by
 have hsw : ∀ d s,(sto d s).weak=sto d s:=fun _ _=>rfl
 have hmw : ∀ s,(yt s).weak=yt s:=fun _=>rfl
 have hsc : ∀ s,(yt s).cells.length=2:=fun _=>rfl
 have hsa : ∀ s,(yt s).aggOf 0 2=yt s:=fun _=>rfl
 obtain⟨L,hL⟩ : ∃ L,L=cal l:=⟨_,rfl⟩
 have hL12:L.length≤12:=by rw [hL];exact ziW
 have hLx : ∀ x∈L,x.l.length≤9223372036854775807:=fun x hx'=>hx x (by rw [hL] at hx';exact zow x hx')
 obtain⟨rc,hI⟩:=Inv.cal l
 rw [←hL] at hI
 obtain⟨hws,hrl⟩:=ziU (l:=L)
 obtain⟨d,hd⟩ : ∃ d,d=(zdb L).1:=⟨_,rfl⟩
 obtain⟨s,hs⟩ : ∃ s,s=(zdb L).2:=⟨_,rfl⟩
 obtain⟨o,ho⟩ : ∃ o,o=(his L).o:=⟨_,rfl⟩
 obtain⟨y,hy⟩ : ∃ y,y=(his L).y:=⟨_,rfl⟩
 have ho13:o.length≤13:=by
  have:=(zfp (l:=L) (i:=min 12 L.length) (by omega)).2.1
  rw [ho];unfold his;omega
 have hrun : ∀ (B:Hp) (R:AV → Hp → Prop),R (.p (sto d s)) B → ACall Tryd.prog G 10 [.p (.sl false 3 (pl opv L))] B R:=fun B R h=>zgA hG0 hG1 L (by omega) hLx B R (by rw [←hd,←hs];exact h)
 have hhis : ∀ (B:Hp) (R:AV → Hp → Prop),R (.tup [.p (.sl false 2 (pl yt o)),.p (i64 (y:Nat))]) B → ACall Tryd.prog G 27 [.p (.sl false 3 (pl opv L))] B R:=fun B R h=>zej L (by omega) hLx B R (by rw [←ho,←hy];exact h)
 have hcal : ∀ (B:Hp) (R:AV → Hp → Prop),R (.p (.sl false 3 (pl opv L))) B → ACall Tryd.prog G 26 [.p (.sl false 3 (pl opv l))] B R:=fun B R h=>zhG l hl B R (by rw [←hL];exact h)
 rw [show zdb L=(d,s) by rw [hd,hs]] at hws hrl hI
 rw [show his L=⟨o,y⟩ by rw [ho,hy]] at hI
 obtain⟨hs0,hs1⟩:=hws
 dsimp only at hs0 hs1 hrl
 have hosl:=hI.sl
 dsimp only at hosl
 have hhit : ∀ (k:Nat) (x:BitVec 8),k < d.length → (lE (d.set k x)=270∧lN (d.set k x)≤k ∧ ∃ j,0≤j∧j < o.length∧lS (d.set k x)=nth o j) ∨ (k < lN (d.set k x)∧zdF (d.set k x) (lN (d.set k x)) k 0=true):=fun k x hk=>hI.hit hk x
 refine ACall.of_run (raw:=[]) Tryd.func6 rfl Tryd.ntmps6 (by simp) fun hbel => ?_
 refine .q ?_;refine .text ?_;simp (disch:=first|exact za|fail) only [go_sem,seval,-List.reduceReplicate]
 refine .q ?_;refine .text ?_;simp (disch:=first|exact za|fail) only [go_sem,seval,-List.reduceReplicate]
 refine CallK.of (fun R h=>zbE hG0 hG1 _ R h) ?_;simp (disch:=first|exact za|fail) only [go_sem,seval,-List.reduceReplicate]
 refine .q ?_;refine .text ?_;simp (disch:=first|exact za|fail) only [go_sem,seval,-List.reduceReplicate]
 refine CallK.of (fun R h=>hcal _ R h) ?_;simp (disch:=first|exact za|fail) only [go_sem,seval,-List.reduceReplicate]
 refine .q ?_;refine .text ?_;simp (disch:=first|exact za|fail) only [go_sem,seval,-List.reduceReplicate]
 refine CallK.of (fun R h=>hhis _ R h) ?_;simp (disch:=first|exact za|fail) only [go_sem,seval,-List.reduceReplicate]
 refine .q ?_;refine .text ?_;simp (disch:=first|exact za|fail) only [go_sem,seval,-List.reduceReplicate]
 refine CallK.of (fun R h=>hrun _ R h) ?_;simp (disch:=first|exact za|fail) only [go_sem,seval,-List.reduceReplicate]
 by_cases c0:d.length=0
 · have d0:((d.length:Int) == 0)=true:=beq_iff_eq.2 (by omega)
   refine .q ?_;refine .text ?_;simp (disch:=first|exact za|fail) only [go_sem,seval,-List.reduceReplicate,d0]
   refine .q ?_;refine .ifT (by simp (disch:=first|exact za|fail) only [go_sem,seval,-List.reduceReplicate]) ?_
   refine .q ?_;refine .text ?_;simp (disch:=first|exact za|fail) only [go_sem,seval,-List.reduceReplicate]
   refine .q ?_;refine .rt Tryd.func6 (by rw [Tryd.results6]) (hR := ?_);simp (disch:=first|exact za|fail) only [go_sem,seval,-List.reduceReplicate]
   exact h
 have d0:((d.length:Int) == 0)=false:=beq_eq_false_iff_ne.2 (by omega)
 by_cases c1:x=0#8
 · have d1:(x == 0#8)=true:=by simpa using c1
   refine .q ?_;refine .text ?_;simp (disch:=first|exact za|fail) only [go_sem,seval,-List.reduceReplicate,d0,d1]
   refine .q ?_;refine .ifT (by simp (disch:=first|exact za|fail) only [go_sem,seval,-List.reduceReplicate]) ?_
   refine .q ?_;refine .text ?_;simp (disch:=first|exact za|fail) only [go_sem,seval,-List.reduceReplicate]
   refine .q ?_;refine .rt Tryd.func6 (by rw [Tryd.results6]) (hR := ?_);simp (disch:=first|exact za|fail) only [go_sem,seval,-List.reduceReplicate]
   exact h
 have d1:(x == 0#8)=false:=by simpa using c1
 refine .q ?_;refine .text ?_;simp (disch:=first|exact za|fail) only [go_sem,seval,-List.reduceReplicate,d0,d1]
 refine .q ?_;refine .ifF (by simp (disch:=first|exact za|fail) only [go_sem,seval,-List.reduceReplicate]) ?_
 refine .skip ?_
 refine .q ?_;refine .region ?_
 refine .one rfl (by simp (disch:=first|exact za|fail) only [go_sem,seval,-List.reduceReplicate]<;>rfl) rfl ?_
 refine .vec 37 (by simp (disch:=first|exact za|fail) only [go_sem,seval,-List.reduceReplicate]<;>rfl) ?_
 refine .run ?_
 have hfb:flat (pl b8 d)=pl b8 d:=zdR
 simp (disch:=first|exact za|fail) only [go_sem,seval,-List.reduceReplicate,hfb]
 obtain⟨k,hk⟩ : ∃ k,k=w.toNat % d.length:=⟨_,rfl⟩
 have hmod:(w.toNat:Int) % (d.length:Int)=(k:Int):=by rw [hk];exact (Int.natCast_emod _ _).symm
 have hkl:k < d.length:=by rw [hk];exact Nat.mod_lt _ (by omega)
 have hclk:(cl b8 d)[k]? = some (.p (b8 (nth d k))):=by simp [cl,nth,hkl]
 have hcll:(cl b8 d).length=d.length:=y4
 refine .q ?_;refine .text ?_;simp (disch:=first|exact za|fail) only [go_sem,seval,-List.reduceReplicate,hmod]
 refine .q ?_;refine .text ?_;simp (disch:=first|exact za|fail) only [go_sem,seval,-List.reduceReplicate,hclk,hcll,zrq]
 have hh:=hhit k (nth d k ^^^ x) hkl
 obtain⟨D,hD⟩ : ∃ D,D=d.set k (nth d k ^^^ x):=⟨_,rfl⟩
 have hDl:D.length=d.length:=by rw [hD,List.length_set]
 rw [←hD] at hh ⊢
 refine .q ?_;refine .frzV 12 (by simp (disch:=first|exact za|fail) only [go_sem,seval,-List.reduceReplicate];rfl) (by simp (disch:=first|exact za|fail) only [go_sem,seval,-List.reduceReplicate]<;>rfl) (xs:=pl b8 D) (by rw [zdR,zf1]) (by rw [yG,hDl]) (fun x hx=>by simp only [pl,List.mem_map] at hx;obtain⟨y,_,rfl⟩:=hx;rfl) ?_;(try simp (disch:=first|exact za|fail) only [go_sem,seval,-List.reduceReplicate])
 refine .q ?_;refine .text ?_;simp (disch:=first|exact za|fail) only [go_sem,seval,-List.reduceReplicate,hsw]
 obtain⟨S,hS⟩ : ∃ S,S=lS D:=⟨_,rfl⟩
 obtain⟨N,hN⟩ : ∃ N,N=lN D:=⟨_,rfl⟩
 obtain⟨E0,hE0⟩ : ∃ E,E=lE D:=⟨_,rfl⟩
 have hSv : ∀ r∈S.l,vR r:=by rw [hS];exact zwV
 have hSk:SOk S:=by rw [hS];exact zhE
 have hNl:N≤D.length:=by rw [hN];exact zhF
 rw [←hS,←hN,←hE0] at hh
 refine CallK.of (fun R h=>yE hG0 hG1 D 0 (by omega) _ R h) ?_;simp (disch:=first|exact za|fail) only [go_sem,seval,-List.reduceReplicate,←hS,←hN,←hE0]
 rcases hh with ⟨b1,b2,j,_,b3,b4⟩ | ⟨b1,b2⟩
 · have de:(E0 != 270)=false:=by simp [b1]
   have dn:decide ((k:Int) < (N:Int))=false:=decide_eq_false (by omega)
   refine .q ?_;refine .text ?_;simp (disch:=first|exact za|fail) only [go_sem,seval,-List.reduceReplicate,de,dn]
   refine .q ?_;refine .ifF (by simp (disch:=first|exact za|fail) only [go_sem,seval,-List.reduceReplicate]) ?_
   refine .skip ?_
   refine .q ?_;refine .text ?_;simp (disch:=first|exact za|fail) only [go_sem,seval,-List.reduceReplicate]
   refine .q ?_;refine .loopE [7,9,14] (fun i=>[(17,.p (i64 i))]) (fun i=>[]) (fun i => ∃ j,i≤j∧j < o.length∧S=nth o j) (0) (o.length) (by omega) ?_ (by first | rfl | (simp (disch:=first|exact za|fail) only [go_sem,seval,-List.reduceReplicate]<;>rfl)) ?_ ?_ ?_
   · simp (disch:=first|exact za|fail) only [go_sem,seval,-List.reduceReplicate]<;>(repeat' (first | rfl | refine And.intro ?_ ?_))
   rotate_left 1
   intro env E hQ;simp (disch:=first|exact za|fail) only [go_sem,seval,-List.reduceReplicate] at E
   rotate_left 1
   intro i env hi0 hi E hQ ihE;simp (disch:=first|exact za|fail) only [go_sem,seval,-List.reduceReplicate] at E
   rotate_left 1
   · exact⟨j,Nat.zero_le _,b3,b4⟩
   · obtain⟨j,a1,a2,_⟩:=hQ
     omega
   · obtain⟨j,a1,a2,a3⟩:=hQ
     have hso:=hosl _ (zS hi)
     have hSl:=hSk.2
     have hSg:=hSk.1
     refine .q ?_;refine .text ?_;simp (disch:=first|exact za|fail) only [go_sem,seval,-List.reduceReplicate,E]
     refine .q ?_;refine .ifT (by simp (disch:=first|exact za|fail) only [go_sem,seval,-List.reduceReplicate]) ?_
     refine .q ?_;refine .open [] follows (by kernel_rfl) ?_;simp (disch:=first|exact za|fail) only [go_sem,seval,-List.reduceReplicate,E,hsc,hsa,hmw]
     refine CallD.still (fun R h=>zci S (nth o i) hSv hso.2.2 (by omega) (by omega) _ R h) ?_;simp (disch:=first|exact za|fail) only [go_sem,seval,-List.reduceReplicate,E,hsc,hsa,hmw]
     by_cases q:S=nth o i
     · have dq:decide (S=nth o i)=true:=decide_eq_true q
       refine .q ?_;refine .ifT (by simp (disch:=first|exact za|fail) only [go_sem,seval,-List.reduceReplicate,dq]) ?_
       refine .q ?_;refine .text ?_;simp (disch:=first|exact za|fail) only [go_sem,seval,-List.reduceReplicate,E]
       refine .q ?_;refine .rt Tryd.func6 (by rw [Tryd.results6]) (hx:=by simp (disch:=first|exact za|fail) only [go_sem,seval,-List.reduceReplicate,E];rfl) (hR := ?_);simp (disch:=first|exact za|fail) only [go_sem,seval,-List.reduceReplicate,E]
       exact h
     · have dq:decide (S=nth o i)=false:=decide_eq_false q
       have hj':j≠i:=fun e=>q (by rw [a3,e])
       refine .q ?_;refine .ifF (by simp (disch:=first|exact za|fail) only [go_sem,seval,-List.reduceReplicate,dq]) ?_
       refine .skip ?_
       refine .q ?_;refine .text ?_;simp (disch:=first|exact za|fail) only [go_sem,seval,-List.reduceReplicate,E]
       first | (refine ihE _ _ ?_ ⟨j,by omega,a2,a3⟩ ?_) | (refine .z rfl ?_;refine ihE _ _ ?_ ⟨j,by omega,a2,a3⟩ ?_) | (refine .z rfl ?_;refine .z rfl ?_;refine ihE _ _ ?_ ⟨j,by omega,a2,a3⟩ ?_) | (refine .z rfl ?_;refine .z rfl ?_;refine .z rfl ?_;refine ihE _ _ ?_ ⟨j,by omega,a2,a3⟩ ?_)
       · simp (disch:=first|exact za|fail) only [go_sem,seval,-List.reduceReplicate,E]<;>(repeat' (first | rfl | refine And.intro ?_ ?_))
       · first | rfl | (simp (disch:=first|exact za|fail) only [go_sem,seval,-List.reduceReplicate,E]<;>(try rfl))
 · have dn:decide ((k:Int) < (N:Int))=true:=decide_eq_true (by omega)
   have hcls : ∀ (B:Hp) (R:AV → Hp → Prop),R (.p (bo true)) B → ACall Tryd.prog G 28 [.p (.sl false 1 (pl b8 D)),.p (i64 (N:Nat)),.p (i64 (k:Nat))] B R:=fun B R h=>zg2 D N k (by omega) (by omega) (by omega) B R (by rw [b2];exact h)
   have hbw:(PV.sl false 1 (pl b8 D)).weak = .sl false 1 (pl b8 D):=rfl
   by_cases c5:E0=270
   · have de:(E0 != 270)=false:=by simp [c5]
     refine .q ?_;refine .text ?_;simp (disch:=first|exact za|fail) only [go_sem,seval,-List.reduceReplicate,de,dn]
     refine .q ?_;refine .ifT (by simp (disch:=first|exact za|fail) only [go_sem,seval,-List.reduceReplicate]) ?_
     refine .q ?_;refine .text ?_;simp (disch:=first|exact za|fail) only [go_sem,seval,-List.reduceReplicate,hbw]
     refine CallK.of (fun R h=>hcls _ R h) ?_;simp (disch:=first|exact za|fail) only [go_sem,seval,-List.reduceReplicate]
     refine .q ?_;refine .rt Tryd.func6 (by rw [Tryd.results6]) (hR := ?_);simp (disch:=first|exact za|fail) only [go_sem,seval,-List.reduceReplicate]
     exact h
   · have de:(E0 != 270)=true:=by simpa using c5
     refine .q ?_;refine .text ?_;simp (disch:=first|exact za|fail) only [go_sem,seval,-List.reduceReplicate,de]
     refine .q ?_;refine .ifT (by simp (disch:=first|exact za|fail) only [go_sem,seval,-List.reduceReplicate]) ?_
     refine .q ?_;refine .text ?_;simp (disch:=first|exact za|fail) only [go_sem,seval,-List.reduceReplicate,hbw]
     refine CallK.of (fun R h=>hcls _ R h) ?_;simp (disch:=first|exact za|fail) only [go_sem,seval,-List.reduceReplicate]
     refine .q ?_;refine .rt Tryd.func6 (by rw [Tryd.results6]) (hR := ?_);simp (disch:=first|exact za|fail) only [go_sem,seval,-List.reduceReplicate]
     exact h
end walks
end Go.Proofs.YtdpfkanfahchjaaDoor

/-
  The log of readings: the law LoadMatchesReference.
-/
namespace Go.Proofs.YtdpfkanfahchjaaDoor
open Go Go.AL

theorem zt7 {rows:Int} {cs:List By}:(yC rows cs).1.length≤4096:=by
 unfold yC
 split
 · rename_i h
   have:=h.2.1
   have:=h.1
   simp only [zbI,List.length_map,List.length_range]
   omega
 · exact Nat.zero_le _
theorem zt8 {rows:Int} {cs:List By} : ∀ r∈(yC rows cs).1,vR r:=zos
section walks
variable {G:Globs}
set_option maxHeartbeats 16000000 in
set_option maxRecDepth 40000 in
theorem zqz (hG0:G 0=some (8,[.agg (pl zy inits)])) (hG1:G 1=some (64,[.agg (pl zy ks)])) (l:List Op) (raw:By) (w:BitVec 16) (rows:Int) (cs:List By) (hrows : -9223372036854775808≤rows∧rows≤9223372036854775807) (hl:l.length≤9223372036854775807) (hx : ∀ x∈l,x.l.length≤9223372036854775807) (hraw:raw.length≤140737488351232) (hcl:cs.length≤9223372036854775807) (hcs : ∀ c∈cs,c.length≤9223372036854775807) (H:Hp) (R:AV → Hp → Prop) (h:R (.p (bo true)) H) :
 ACall Tryd.prog G 4 [.p (.sl false 3 (pl opv l)),.p (.sl false 1 (pl b8 raw)),.p (w16 w),.p (seg rows cs)] H R:=by
 have hsw : ∀ d s,(sto d s).weak=sto d s:=fun _ _=>rfl
 have hmw : ∀ s,(yt s).weak=yt s:=fun _=>rfl
 have hgw:(seg rows cs).weak=seg rows cs:=rfl
 obtain⟨hws,hrl⟩:=ziU (l:=l)
 obtain⟨d,hd⟩ : ∃ d,d=(zdb l).1:=⟨_,rfl⟩
 obtain⟨s,hs⟩ : ∃ s,s=(zdb l).2:=⟨_,rfl⟩
 have hrun : ∀ (B:Hp) (R:AV → Hp → Prop),R (.p (sto d s)) B → ACall Tryd.prog G 10 [.p (.sl false 3 (pl opv l))] B R:=fun B R h=>zgA hG0 hG1 l hl hx B R (by rw [←hd,←hs];exact h)
 rw [show zdb l=(d,s) by rw [hd,hs]] at hws hrl
 dsimp only at hrl
 have hfb : ∀ d,flat (pl b8 d)=pl b8 d:=fun _=>zdR
 refine ACall.of_run (raw:=[]) Tryd.func4 rfl Tryd.ntmps4 (by simp) fun hbel => ?_
 refine .q ?_;refine .text ?_;simp (disch:=first|exact za|fail) only [go_sem,seval,-List.reduceReplicate,zal]
 refine .q ?_;refine .text ?_;simp (disch:=first|exact za|fail) only [go_sem,seval,-List.reduceReplicate]
 refine CallK.of (fun R h=>zbE hG0 hG1 _ R h) ?_;simp (disch:=first|exact za|fail) only [go_sem,seval,-List.reduceReplicate]
 refine .q ?_;refine .text ?_;simp (disch:=first|exact za|fail) only [go_sem,seval,-List.reduceReplicate]
 refine CallK.of (fun R h=>hrun _ R h) ?_;simp (disch:=first|exact za|fail) only [go_sem,seval,-List.reduceReplicate,hsw]
 refine .q ?_;refine .region ?_
 refine .one rfl (by simp (disch:=first|exact za|fail) only [go_sem,seval,-List.reduceReplicate]<;>rfl) rfl ?_
 refine .vec 26 (by simp (disch:=first|exact za|fail) only [go_sem,seval,-List.reduceReplicate]<;>rfl) ?_
 refine .run ?_
 simp (disch:=first|exact za|fail) only [go_sem,seval,-List.reduceReplicate,hfb]
 refine .q ?_;refine .text ?_;simp (disch:=first|exact za|fail) only [go_sem,seval,-List.reduceReplicate]
 obtain⟨k,hk⟩ : ∃ k,k=w.toNat % (d.length+1):=⟨_,rfl⟩
 have hmod:(w.toNat:Int) % ((d.length:Int)+1)=(k:Int):=by rw [hk];exact (Int.natCast_emod _ _).symm
 have hkl:k≤d.length:=by have:=Nat.mod_lt w.toNat (show 0 < d.length+1 by omega);omega
 obtain⟨D0,hD0⟩ : ∃ D0,D0=if d.length=0 then d else d.take k:=⟨_,rfl⟩
 have hD0l:D0.length≤3600:=by rw [hD0];split<;>(try rw [List.length_take])<;>omega
 refine .q ?_;refine .cutH [1,7,9] [(11,.vr (H.n+3) D0.length 1)] (((((H.new (.cells [.p (i64 rows),.p (.sl false 1 (pl (sle 1 b8) cs))])).new (.cells [.p (.sl false 1 (pl b8 d)),.p (i64 s)])).new .dead).new (.vec (cl b8 D0)))) (fun ihF => ?_) (fun env F => ?_)
 rotate_left 1
 simp (disch:=first|exact za|fail) only [go_sem,seval,-List.reduceReplicate] at F
 rotate_left 1
 · by_cases c0:d.length=0
   · have d0:decide ((0:Int) < (d.length:Int))=false:=decide_eq_false (by omega)
     rw [if_pos c0] at hD0
     subst hD0
     refine .q ?_;refine .ifF (by simp (disch:=first|exact za|fail) only [go_sem,seval,-List.reduceReplicate,d0]) ?_
     refine .skip ?_
     refine .renV 11 (b:=H.n+2) (len:=D0.length) (sz:=1) (cs:=cl b8 D0) (by simp (disch:=first|exact za|fail) only [go_sem,seval,-List.reduceReplicate]<;>rfl) (by simp (disch:=first|exact za|fail) only [go_sem,seval,-List.reduceReplicate]<;>rfl) (by rw [y4,Nat.mul_one]) ?_
     have hset:((((H.new (.cells [.p (i64 rows),.p (.sl false 1 (pl (sle 1 b8) cs))])).new (.cells [.p (.sl false 1 (pl b8 D0)),.p (i64 s)])).new (.vec (cl b8 D0))).set (H.n+2) .dead).new (.vec (cl b8 D0))=(((H.new (.cells [.p (i64 rows),.p (.sl false 1 (pl (sle 1 b8) cs))])).new (.cells [.p (.sl false 1 (pl b8 D0)),.p (i64 s)])).new .dead).new (.vec (cl b8 D0)):=by simp (disch:=first|exact za|fail) only [go_sem,seval,-List.reduceReplicate]
     first | (refine ihF _ _ ?_ ?_) | (refine .z rfl ?_;refine ihF _ _ ?_ ?_) | (refine .z rfl ?_;refine .z rfl ?_;refine ihF _ _ ?_ ?_) | (refine .z rfl ?_;refine .z rfl ?_;refine .z rfl ?_;refine ihF _ _ ?_ ?_)
     · simp (disch:=first|exact za|fail) only [go_sem,seval,-List.reduceReplicate]<;>(repeat' (first | rfl | refine And.intro ?_ ?_))
     · exact hset
   · have d0:decide ((0:Int) < (d.length:Int))=true:=decide_eq_true (by omega)
     rw [if_neg c0] at hD0
     have hD0l':D0.length=k:=by rw [hD0,List.length_take];omega
     refine .q ?_;refine .ifT (by simp (disch:=first|exact za|fail) only [go_sem,seval,-List.reduceReplicate,d0]) ?_
     refine .q ?_;refine .region ?_
     refine .one rfl (by simp (disch:=first|exact za|fail) only [go_sem,seval,-List.reduceReplicate]<;>rfl) rfl ?_
     refine .one rfl (by simp (disch:=first|exact za|fail) only [go_sem,seval,-List.reduceReplicate]<;>rfl) rfl ?_
     refine .one rfl (by simp (disch:=first|exact za|fail) only [go_sem,seval,-List.reduceReplicate]<;>rfl) rfl ?_
     refine .one rfl (by simp (disch:=first|exact za|fail) only [go_sem,seval,-List.reduceReplicate]<;>rfl) rfl ?_
     refine .one rfl (by simp (disch:=first|exact za|fail) only [go_sem,seval,-List.reduceReplicate]<;>rfl) rfl ?_
     refine .one rfl (by simp (disch:=first|exact za|fail) only [go_sem,seval,-List.reduceReplicate]<;>rfl) rfl ?_
     refine .one rfl (by simp (disch:=first|exact za|fail) only [go_sem,seval,-List.reduceReplicate,hmod]<;>rfl) rfl ?_
     refine .cutV (e:=5) (b:=H.n+2) (len:=d.length) (sz:=1) (n:=k) (cs:=cl b8 d) (by simp (disch:=first|exact za|fail) only [go_sem,seval,-List.reduceReplicate]<;>rfl) (by simp (disch:=first|exact za|fail) only [go_sem,seval,-List.reduceReplicate]<;>rfl) (by simp (disch:=first|exact za|fail) only [go_sem,seval,-List.reduceReplicate]<;>rfl) (by rw [y4,Nat.mul_one]) (by simp (disch:=first|exact za|fail) only [go_sem,seval,-List.reduceReplicate]<;>rfl) (by omega) (by simp (disch:=first|exact za|fail) only [go_sem,seval,-List.reduceReplicate]<;>rfl) hkl rfl ?_
     have hcut:(cl b8 d).take (k*1)=cl b8 D0:=by rw [Nat.mul_one,hD0];simp [cl]
     rw [hcut]
     refine .run ?_
     simp (disch:=first|exact za|fail) only [go_sem,seval,-List.reduceReplicate]
     first | (refine ihF _ _ ?_ ?_) | (refine .z rfl ?_;refine ihF _ _ ?_ ?_) | (refine .z rfl ?_;refine .z rfl ?_;refine ihF _ _ ?_ ?_) | (refine .z rfl ?_;refine .z rfl ?_;refine .z rfl ?_;refine ihF _ _ ?_ ?_)
     · simp (disch:=first|exact za|fail) only [go_sem,seval,-List.reduceReplicate,hD0l']<;>(repeat' (first | rfl | refine And.intro ?_ ?_))
     · exact rfl
 have hcap : ∀ x y:By,cl b8 x++cl b8 y=cl b8 (x++y):=fun x y=>by simp [cl]
 have hcap2 : ∀ x y:By,cl b8 x++(flat (pl b8 y)).map .p=cl b8 (x++y):=fun x y=>by rw [hfb,zf1,hcap]
 have hcln:(cl b8 D0).length=D0.length:=y4
 refine .q ?_;refine .text ?_;simp (disch:=first|exact za|fail) only [go_sem,seval,-List.reduceReplicate,F,hcap2,hcap,hfb,hcln]
 obtain⟨D,hD⟩ : ∃ D,D=D0++raw:=⟨_,rfl⟩
 have hDl:D.length=D0.length+raw.length:=by rw [hD,List.length_append]
 rw [←hD]
 have hDi:((D0.length:Int)+(raw.length:Int))=(D.length:Int):=by omega
 by_cases c1:600 < D.length
 · have d1:decide ((600:Int) < (D.length:Int))=true:=decide_eq_true (by omega)
   refine .q ?_;refine .text ?_;simp (disch:=first|exact za|fail) only [go_sem,seval,-List.reduceReplicate,F,←hDl,d1]
   refine .q ?_;refine .ifT (by simp (disch:=first|exact za|fail) only [go_sem,seval,-List.reduceReplicate]) ?_
   refine .q ?_;refine .text ?_;simp (disch:=first|exact za|fail) only [go_sem,seval,-List.reduceReplicate,F]
   refine .q ?_;refine .rt Tryd.func4 (by rw [Tryd.results4]) (hx:=by simp (disch:=first|exact za|fail) only [go_sem,seval,-List.reduceReplicate,F];rfl) (hR := ?_);simp (disch:=first|exact za|fail) only [go_sem,seval,-List.reduceReplicate,F]
   exact h
 have d1:decide ((600:Int) < (D.length:Int))=false:=decide_eq_false (by omega)
 by_cases c2:8 < cs.length
 · have d2:decide ((8:Int) < (cs.length:Int))=true:=decide_eq_true (by omega)
   refine .q ?_;refine .text ?_;simp (disch:=first|exact za|fail) only [go_sem,seval,-List.reduceReplicate,F,←hDl,d1,d2]
   refine .q ?_;refine .ifT (by simp (disch:=first|exact za|fail) only [go_sem,seval,-List.reduceReplicate]) ?_
   refine .q ?_;refine .text ?_;simp (disch:=first|exact za|fail) only [go_sem,seval,-List.reduceReplicate,F]
   refine .q ?_;refine .rt Tryd.func4 (by rw [Tryd.results4]) (hx:=by simp (disch:=first|exact za|fail) only [go_sem,seval,-List.reduceReplicate,F];rfl) (hR := ?_);simp (disch:=first|exact za|fail) only [go_sem,seval,-List.reduceReplicate,F]
   exact h
 have d2:decide ((8:Int) < (cs.length:Int))=false:=decide_eq_false (by omega)
 by_cases c3:5000 < rows
 · have d3:decide ((5000:Int) < rows)=true:=decide_eq_true c3
   refine .q ?_;refine .text ?_;simp (disch:=first|exact za|fail) only [go_sem,seval,-List.reduceReplicate,F,←hDl,d1,d2,d3]
   refine .q ?_;refine .ifT (by simp (disch:=first|exact za|fail) only [go_sem,seval,-List.reduceReplicate]) ?_
   refine .q ?_;refine .text ?_;simp (disch:=first|exact za|fail) only [go_sem,seval,-List.reduceReplicate,F]
   refine .q ?_;refine .rt Tryd.func4 (by rw [Tryd.results4]) (hx:=by simp (disch:=first|exact za|fail) only [go_sem,seval,-List.reduceReplicate,F];rfl) (hR := ?_);simp (disch:=first|exact za|fail) only [go_sem,seval,-List.reduceReplicate,F]
   exact h
 have d3:decide ((5000:Int) < rows)=false:=decide_eq_false c3
 refine .q ?_;refine .text ?_;simp (disch:=first|exact za|fail) only [go_sem,seval,-List.reduceReplicate,F,←hDl,d1,d2,d3]
 refine .q ?_;refine .ifF (by simp (disch:=first|exact za|fail) only [go_sem,seval,-List.reduceReplicate]) ?_
 refine .skip ?_
 refine .q ?_;refine .frzV 11 (by simp (disch:=first|exact za|fail) only [go_sem,seval,-List.reduceReplicate,←hDl];rfl) (by simp (disch:=first|exact za|fail) only [go_sem,seval,-List.reduceReplicate,←hDl]<;>rfl) (xs:=pl b8 D) (by rw [zdR,zf1]) (by rw [yG]) (fun x hx=>by simp only [pl,List.mem_map] at hx;obtain⟨y,_,rfl⟩:=hx;rfl) ?_;(try simp (disch:=first|exact za|fail) only [go_sem,seval,-List.reduceReplicate,←hDl])
 obtain⟨S,hS⟩ : ∃ S,S=lS D:=⟨_,rfl⟩
 obtain⟨N,hN⟩ : ∃ N,N=lN D:=⟨_,rfl⟩
 obtain⟨E0,hE0⟩ : ∃ E,E=lE D:=⟨_,rfl⟩
 have hSv : ∀ r∈S.l,vR r:=by rw [hS];exact zwV
 have hSk:SOk S:=by rw [hS];exact zhE
 have hSl:=hSk.2
 have hSg:=hSk.1
 obtain⟨U,hU⟩ : ∃ U,U=(yC rows cs).1:=⟨_,rfl⟩
 obtain⟨e,he⟩ : ∃ e,e=(yC rows cs).2:=⟨_,rfl⟩
 have hUv : ∀ r∈U,vR r:=by rw [hU];exact zt8
 have hUl:U.length≤4096:=by rw [hU];exact zt7
 have hdS:decide (S=S)=true:=by simp
 have hdU:decide (U=U)=true:=by simp
 refine .q ?_;refine .text ?_;simp (disch:=first|exact za|fail) only [go_sem,seval,-List.reduceReplicate,F,hsw]
 refine CallK.of (fun R h=>yE hG0 hG1 D 0 (by omega) _ R h) ?_;simp (disch:=first|exact za|fail) only [go_sem,seval,-List.reduceReplicate,F,←hS,←hN,←hE0]
 refine .q ?_;refine .text ?_;simp (disch:=first|exact za|fail) only [go_sem,seval,-List.reduceReplicate,F,hsw]
 refine CallK.of (fun R h=>znq D 0 (by omega) _ R h) ?_;simp (disch:=first|exact za|fail) only [go_sem,seval,-List.reduceReplicate,F,←hS,←hN,←hE0]
 refine .q ?_;refine .text ?_;simp (disch:=first|exact za|fail) only [go_sem,seval,-List.reduceReplicate,F]
 refine .q ?_;refine .loopE [7,9,12,13,14,15,16,17] (fun i=>[(18,.p (i64 i))]) (fun i=>[]) (fun i => ∀ j,j < i → (nth cs j).length≤300) (0) (cs.length) (by omega) ?_ (by first | rfl | (simp (disch:=first|exact za|fail) only [go_sem,seval,-List.reduceReplicate,F]<;>rfl)) ?_ ?_ ?_
 · simp (disch:=first|exact za|fail) only [go_sem,seval,-List.reduceReplicate,F]<;>(repeat' (first | rfl | refine And.intro ?_ ?_))
 rotate_left 1
 intro env E hQ;simp (disch:=first|exact za|fail) only [go_sem,seval,-List.reduceReplicate,F] at E
 rotate_left 1
 intro i env hi0 hi E hQ ihE;simp (disch:=first|exact za|fail) only [go_sem,seval,-List.reduceReplicate,F] at E
 rotate_left 1
 · intro j hj;omega
 rotate_left
 · refine .q ?_;refine .text ?_;simp (disch:=first|exact za|fail) only [go_sem,seval,-List.reduceReplicate,E,F]
   refine .q ?_;refine .ifT (by simp (disch:=first|exact za|fail) only [go_sem,seval,-List.reduceReplicate]) ?_
   by_cases c4:300 < (nth cs i).length
   · have d4:decide ((300:Int) < ((nth cs i).length:Int))=true:=decide_eq_true (by omega)
     refine .q ?_;refine .text ?_;simp (disch:=first|exact za|fail) only [go_sem,seval,-List.reduceReplicate,E,F,zaR,d4]
     refine .q ?_;refine .ifT (by simp (disch:=first|exact za|fail) only [go_sem,seval,-List.reduceReplicate]) ?_
     refine .q ?_;refine .text ?_;simp (disch:=first|exact za|fail) only [go_sem,seval,-List.reduceReplicate,E,F]
     refine .q ?_;refine .rt Tryd.func4 (by rw [Tryd.results4]) (hx:=by simp (disch:=first|exact za|fail) only [go_sem,seval,-List.reduceReplicate,E,F];rfl) (hR := ?_);simp (disch:=first|exact za|fail) only [go_sem,seval,-List.reduceReplicate,E,F]
     exact h
   · have d4:decide ((300:Int) < ((nth cs i).length:Int))=false:=decide_eq_false (by omega)
     refine .q ?_;refine .text ?_;simp (disch:=first|exact za|fail) only [go_sem,seval,-List.reduceReplicate,E,F,zaR,d4]
     refine .q ?_;refine .ifF (by simp (disch:=first|exact za|fail) only [go_sem,seval,-List.reduceReplicate]) ?_
     refine .skip ?_
     refine .q ?_;refine .text ?_;simp (disch:=first|exact za|fail) only [go_sem,seval,-List.reduceReplicate,E,F]
     first | (refine ihE _ _ ?_ (zm hQ (by omega)) ?_) | (refine .z rfl ?_;refine ihE _ _ ?_ (zm hQ (by omega)) ?_) | (refine .z rfl ?_;refine .z rfl ?_;refine ihE _ _ ?_ (zm hQ (by omega)) ?_) | (refine .z rfl ?_;refine .z rfl ?_;refine .z rfl ?_;refine ihE _ _ ?_ (zm hQ (by omega)) ?_)
     · simp (disch:=first|exact za|fail) only [go_sem,seval,-List.reduceReplicate,E,F]<;>(repeat' (first | rfl | refine And.intro ?_ ?_))
     · first | rfl | (simp (disch:=first|exact za|fail) only [go_sem,seval,-List.reduceReplicate,E,F]<;>(try rfl))
 · have hc3 : ∀ c∈cs,c.length≤2000000:=fun c hc=>by
    obtain⟨j,hj,rfl⟩:=List.mem_iff_getElem.1 hc
    have:=hQ j hj
    rw [show nth cs j=cs[j] by simp [nth,hj]] at this
    omega
   refine .q ?_;refine .text ?_;simp (disch:=first|exact za|fail) only [go_sem,seval,-List.reduceReplicate,E,F]
   refine .q ?_;refine .ifF (by simp (disch:=first|exact za|fail) only [go_sem,seval,-List.reduceReplicate]) ?_
   refine .q ?_;refine .text ?_;simp (disch:=first|exact za|fail) only [go_sem,seval,-List.reduceReplicate,E,F,hgw]
   refine CallK.of (fun R h=>yu rows cs hc3 _ R h) ?_;simp (disch:=first|exact za|fail) only [go_sem,seval,-List.reduceReplicate,E,F,←hU,←he]
   refine .q ?_;refine .text ?_;simp (disch:=first|exact za|fail) only [go_sem,seval,-List.reduceReplicate,E,F,hgw]
   refine CallK.of (fun R h=>zea rows cs hc3 _ R h) ?_;simp (disch:=first|exact za|fail) only [go_sem,seval,-List.reduceReplicate,E,F,←hU,←he]
   refine .q ?_;refine .text ?_;simp (disch:=first|exact za|fail) only [go_sem,seval,-List.reduceReplicate,E,F,hmw]
   refine CallK.of (fun R h=>zci S S hSv hSv (by omega) (by omega) _ R h) ?_;simp (disch:=first|exact za|fail) only [go_sem,seval,-List.reduceReplicate,E,F,hdS]
   refine CallK.of (fun R h=>zeU U U hUv hUv (by omega) _ R h) ?_;simp (disch:=first|exact za|fail) only [go_sem,seval,-List.reduceReplicate,E,F,hdU]
   refine .q ?_;refine .rt Tryd.func4 (by rw [Tryd.results4]) (hx:=by simp (disch:=first|exact za|fail) only [go_sem,seval,-List.reduceReplicate,E,F];rfl) (hR := ?_);simp (disch:=first|exact za|fail) only [go_sem,seval,-List.reduceReplicate,E,F]
   exact h
end walks
end Go.Proofs.YtdpfkanfahchjaaDoor

/-
  The log of readings: what bytes and segments read as,their lengths within what a call's arguments may hold.
-/
namespace Go.Proofs.YtdpfkanfahchjaaDoor
open Go Go.AL Go.ChangeShapes Go.WideShapes Go.ChangeAt Go.RowKit

set_option maxRecDepth 100000
section bound
variable {W:World} {H:Type} {enc:TypeId × Value → H}
theorem zlk {fuel:Nat} {len cap:Nat} {a:Option Addr} {d:DataW H} {ps:List MemPlace} (h:DataW.trod enc Tryd.prog W 0 (fun _=>true) true fuel 27 [.slice a len cap]=some (d,ps)) (hw : ∀ w∈d.weights Tryd.prog 27,w≤reachBytes):len≤reachBytes:=by
 cases fuel with
 | zero=>simp [DataW.trod] at h
 | succ fuel =>
  unfold DataW.trod at h
  rw [Tryd.underlying27] at h
  cases a with
  | none =>
   cases len with
   | zero=>omega
   | succ len=>simp at h
  | some a =>
   simp only at h
   split at h
   · cases hm:(List.range len).mapM fun i=>(W.cells? 0 (a.add (i*Tryd.prog.cellsOf 5)) (Tryd.prog.cellsOf 5)).bind (DataW.trod enc Tryd.prog W 0 (fun _=>true) true fuel 5) with
     | none=>rw [hm] at h;simp at h
     | some elems =>
      rw [hm] at h
      have hl:=(zbg hm).1
      rw [List.length_range] at hl
      simp only [Option.bind_some,Option.map_eq_some_iff,if_true] at h
      obtain⟨rest,_,h⟩:=h
      cases h
      have:=hw ((elems.map (·.1)).length+(rest.map (·.1)).length) (by
       rw [DataW.weights,Tryd.underlying27]
       dsimp only
       rw [bytes5,Nat.mul_one]
       exact List.mem_cons_self)
      simp at this
      omega
   · cases h
theorem zeV {P:Program} {e:TypeId} : ∀ {l:List (DataW H)} {i:Nat} {d:DataW H},l[i]? = some d → ∀ w∈d.weights P e,w∈DataW.weightsAll P e l
 | [],i,d,h=>by simp at h
 | x :: l,0,d,h=>by
  simp only [List.getElem?_cons_zero,Option.some.injEq] at h
  subst h
  intro w hw
  rw [DataW.weightsAll]
  exact List.mem_append_left _ hw
 | x :: l,i+1,d,h=>by
  rw [List.getElem?_cons_succ] at h
  intro w hw
  rw [DataW.weightsAll]
  exact List.mem_append_right _ (zeV h w hw)
theorem znu {fuel:Nat} {g off len cap:Nat} {d:DataW H} {ps:List MemPlace} (h:DataW.trod enc Tryd.prog W 0 (fun _=>true) true fuel 47 [.slice (some ⟨g,off,none⟩) len cap]=some (d,ps)) (hw : ∀ w∈d.weights Tryd.prog 47,w≤reachBytes) :
 ∀ i,i < len → ∀ a' l c,W.cell? ⟨g,off+i,none⟩=some (.slice a' l c) → l≤reachBytes:=by
 cases fuel with
 | zero=>simp [DataW.trod] at h
 | succ fuel =>
  unfold DataW.trod at h
  rw [Tryd.underlying47] at h
  simp only at h
  split at h
  · cases hm:(List.range len).mapM fun i=>(W.cells? 0 ((⟨g,off,none⟩:Addr).add (i*Tryd.prog.cellsOf 27)) (Tryd.prog.cellsOf 27)).bind (DataW.trod enc Tryd.prog W 0 (fun _=>true) true fuel 27) with
    | none=>rw [hm] at h;simp at h
    | some elems =>
     rw [hm] at h
     obtain⟨hl,hget⟩:=zbg hm
     simp only [Option.bind_some,Option.map_eq_some_iff,if_true] at h
     obtain⟨rest,_,h⟩:=h
     cases h
     intro i hi a' l c hc
     obtain⟨⟨di,pi⟩,h1,h2⟩:=hget i i (by simp [hi])
     rw [cells27,Nat.mul_one] at h2
     cases hcs:W.cells? 0 ((⟨g,off,none⟩:Addr).add i) 1 with
     | none=>rw [hcs] at h2;simp at h2
     | some cs =>
      rw [hcs] at h2
      simp only [Option.bind_some] at h2
      obtain⟨g1,g2⟩:=cells?_get hcs
      have g3:=g2 0 (by omega)
      rw [zu,zu,Nat.add_zero,hc] at g3
      have hcs1:cs=[.slice a' l c]:=by
       match cs,g1,g3 with
       | [y],_,g3=>simp at g3;rw [g3]
      rw [hcs1] at h2
      refine zlk h2 fun w hw2=>hw w ?_
      rw [DataW.weights,Tryd.underlying47]
      dsimp only
      refine List.mem_cons_of_mem _ (List.mem_append_left _ (zeV (i:=i) (d:=di) ?_ w hw2))
      rw [List.getElem?_map,h1]
      rfl
  · cases h
theorem znv {v:Value} {d:DataW H} {ps:List MemPlace} {base:Nat} (hval:Value.okWide Tryd.prog W .any base 27 v) (h:DataW.Trod enc Tryd.prog W 0 (fun _=>true) true 27 v d ps) (hw : ∀ w∈d.weights Tryd.prog 27,w≤reachBytes) :
 ∃ l:By,l.length≤140737488351232∧RelV σ0 H0 W (.p (.sl false 1 (pl b8 l))) v:=by
 obtain⟨l,h1,e⟩:=zqw hval h
 refine⟨l,?_,e⟩
 obtain⟨fuel,hf⟩:=h
 have hr2:reachBytes=140737488351232:=rfl
 have hxl:(pl b8 l).length=l.length:=yG
 cases e with | p e =>
 generalize pl b8 l=px at e hxl
 cases e with
 | emp _ _ a cap=>simp at hxl;omega
 | sl _ _ _ g off cap f =>
  have:=zlk hf hw
  omega
theorem zt9 {v:Value} {d:DataW H} {ps:List MemPlace} {base:Nat} (hval:Value.okWide Tryd.prog W .any base 49 v) (h:DataW.Trod enc Tryd.prog W 0 (fun _=>true) true 49 v d ps) (hw : ∀ w∈d.weights Tryd.prog 49,w≤reachBytes) :
    ∃ (z:Int) (q:List By),(-9223372036854775808≤z∧z≤9223372036854775807)∧q.length≤9223372036854775807∧(∀ c∈q,c.length≤140737488351232)∧RelV σ0 H0 W (.p (seg z q)) v:=by
  obtain⟨z,q,h1,h2,_,e⟩:=zoy hval h
  refine⟨z,q,h1,h2,?_,e⟩
  have key0 : ∀ i,i < q.length → (nth q i).length≤140737488351232 := ?_
  · intro c hc
    obtain⟨j,hj,rfl⟩:=List.mem_iff_getElem.1 hc
    have:=key0 j hj
    rwa [show nth q j=q[j] by simp [nth,hj]] at this
  unfold seg at e
  cases e with | p e =>
  generalize hx:[i64 z,PV.sl false 1 (pl (sle 1 b8) q)]=xs at e
  cases e with | agg _ vs hl h1 hr =>
  subst hx
  have hl2:vs.size=2:=hl
  have e1:=hr 1 _ vs[1] rfl (by simp)
  obtain⟨fuel,hf⟩:=h
  cases fuel with
  | zero=>simp [DataW.trod] at hf
  | succ fuel =>
    unfold DataW.trod at hf
    rw [Tryd.underlying49] at hf
    generalize hfs : (#[⟨"Rows", 3, 0, false, "", "", 0⟩, ⟨"Cols", 47, 1, false, "", "", 8⟩] : Array Field) = fs at hf
    replace hf:(if (Value.agg vs).cells.toList.length=Tryd.prog.cellsOf 49 then (fs.toList.mapM fun f=>DataW.trod enc Tryd.prog W 0 (fun _=>true) true fuel f.type (((Value.agg vs).cells.toList.drop f.offset).take (Tryd.prog.cellsOf f.type))).map fun xs=>(.agg (xs.map (·.1)),xs.flatMap (·.2)) else none)=some (d,ps):=hf
    split at hf
    · cases hm:(fs.toList.mapM fun f=>DataW.trod enc Tryd.prog W 0 (fun _=>true) true fuel f.type (((Value.agg vs).cells.toList.drop f.offset).take (Tryd.prog.cellsOf f.type))) with
      | none=>rw [hm] at hf;simp at hf
      | some ys =>
        rw [hm] at hf
        simp only [Option.map_some,Option.some.injEq,Prod.mk.injEq] at hf
        obtain⟨rfl,_⟩:=hf
        obtain⟨hyl,hget⟩:=zbg hm
        subst hfs
        obtain⟨⟨d1,p1⟩,g1,g2⟩:=hget 1 _ rfl
        obtain⟨⟨d0,p0⟩,g3,g4⟩:=hget 0 _ rfl
        have hys:ys=[(d0,p0),(d1,p1)]:=by
          match ys,hyl,g1,g3 with
          | [a,b],_,g1,g3=>simp at g1 g3;rw [g1,g3]
        subst hys
        have hcs:(((Value.agg vs).cells.toList.drop 1).take (Tryd.prog.cellsOf 47))=[vs[1]]:=by
          rw [cells47]
          show (vs.toList.drop 1).take 1=[vs[1]]
          rw [List.drop_eq_getElem_cons (by rw [Array.length_toList];omega)]
          simp
        dsimp only at g2
        rw [hcs] at g2
        have hw1 : ∀ w∈d1.weights Tryd.prog 47,w≤reachBytes:=fun w h=>hw w (by
          rw [DataW.weights,Tryd.underlying49]
          show w∈DataW.weightsEach Tryd.prog [3,47] [d0,d1]
          rw [DataW.weightsEach,DataW.weightsEach]
          exact List.mem_append_right _ (List.mem_append_left _ h))
        intro i hi
        generalize vs[1]=u at e1 g2
        generalize hz:pl (sle 1 b8) q=zz at e1
        have hzl:zz.length=q.length:=by rw [←hz,yG]
        cases e1 with
        | emp _ _ a cap=>simp at hzl;omega
        | sl _ _ _ g off cap f hfl hcap hsz hrd hc =>
          rw [hzl] at g2
          obtain⟨_,hcell,_⟩:=hrd i (by omega)
          have hfk:(flat zz)[i]? = some (sle 1 b8 (nth q i)):=by
            rw [←hz]
            have hfz : ∀ L:List By,flat (pl (sle 1 b8) L)=pl (sle 1 b8) L:=by
              intro L
              induction L with
              | nil=>rfl
              | cons x L ih =>
                have e:flat (pl (sle 1 b8) (x :: L))=sle 1 b8 x :: flat (pl (sle 1 b8) L):=rfl
                rw [e,ih];rfl
            rw [hfz,pl,List.getElem?_map,List.getElem?_eq_getElem hi]
            have:nth q i=q[i]:=by simp [nth,hi]
            rw [this];rfl
          have hrel:=hc i _ hfk
          have hb:=znu g2 hw1 i hi
          generalize f i=y at hcell hrel
          have key : ∀ a' l c,y = .slice a' l c → l≤reachBytes:=fun a' l c e=>hb a' l c (by rw [hcell,e])
          generalize nth q i=x at hrel ⊢
          have hxl:(pl b8 x).length=x.length:=yG
          have hbx:sle 1 b8 x = .sl false 1 (pl b8 x):=rfl
          rw [hbx] at hrel
          generalize pl b8 x=px at hrel hxl
          have hr2:reachBytes=140737488351232:=rfl
          cases hrel with
          | emp _ _ a cap=>simp at hxl;omega
          | sl _ _ _ g off cap f=>have:=key _ _ _ rfl;omega
    · cases hf
end bound
end Go.Proofs.YtdpfkanfahchjaaDoor

/-
  The log of readings: the law Compression.
-/
namespace Go.Proofs.YtdpfkanfahchjaaDoor
open Go Go.AL

structure CpS where
 i:Nat
 l:List Rdg
section walks
variable {G:Globs}
set_option maxHeartbeats 16000000 in
set_option maxRecDepth 40000 in
theorem zqA (hG0:G 0=some (8,[.agg (pl zy inits)])) (hG1:G 1=some (64,[.agg (pl zy ks)])) (t:List T3) (w:BitVec 16) (rows:Int) (cs:List By) (hrows : -9223372036854775808≤rows∧rows≤9223372036854775807) (ht:t.length≤9223372036854775807) (hcl:cs.length≤9223372036854775807) (hcs : ∀ c∈cs,c.length≤140737488351232) (H:Hp) (R:AV → Hp → Prop) (h:R (.p (bo true)) H) :
 ACall Tryd.prog G 7 [.p (.sl false 3 (pl tri t)),.p (w16 w),.p (seg rows cs)] H R:=by
 have hgw : ∀ r c,(seg r c).weak=seg r c:=fun _ _=>rfl
 have hag : ∀ r,(tri r).aggOf 0 3=tri r:=fun _=>rfl
 have htw : ∀ x:T3,(tri x).weak = .agg [b8 x.1,b8 x.2.1,b8 x.2.2]:=fun _=>rfl
 have htl : ∀ t,(tri t).cells.length=3:=fun _=>rfl
 have hrd : ∀ t:T3,rd3 t.1 t.2.1 t.2.2=rdt t:=fun _=>rfl
 have hal : ∀ x,((pl zv [x]).all fun y=>y.cells.length == 4)=true:=fun _=>zdD
 have hon : ∀ r,[zv r]=pl zv [r]:=fun _=>rfl
 have hwl:=w.isLt
 have h30:(w.toNat:Int) % 30=((w.toNat % 30:Nat):Int):=(Int.natCast_emod _ _).symm
 refine ACall.of_run (raw:=[]) Tryd.func7 rfl Tryd.ntmps7 (by simp) fun hbel => ?_
 refine .q ?_;refine .text ?_;simp (disch:=first|exact za|fail) only [go_sem,seval,-List.reduceReplicate,zal]
 refine .q ?_;refine .text ?_;simp (disch:=first|exact za|fail) only [go_sem,seval,-List.reduceReplicate]
 refine CallK.of (fun R h=>zbE hG0 hG1 _ R h) ?_;simp (disch:=first|exact za|fail) only [go_sem,seval,-List.reduceReplicate]
 refine .q ?_;refine .text ?_;simp (disch:=first|exact za|fail) only [go_sem,seval,-List.reduceReplicate]
 refine .q ?_;refine .own 8 (by simp (disch:=first|exact za|fail) only [go_sem,seval,-List.reduceReplicate];rfl) ?_
 refine .q ?_;refine .text ?_;simp (disch:=first|exact za|fail) only [go_sem,seval,-List.reduceReplicate]
 have hp0:([]:List PV)=pl zv []:=rfl
 refine .q ?_;refine .loopT (S:=CpS) [0,1,5,7] (fun x=>[(8,.sl (H.n+1) x.l.length 4 (pl zv x.l)),(9,.p (i64 (x.i:Nat)))]) (fun x=>[(H.n+1,.tail x.l.length)]) (fun x=>x.i≤20∧x.i≤t.length∧x.l.length≤700 ∧ ∀ r∈x.l,vR r) (fun x=>20 - x.i) (⟨0,[]⟩) ?_ (by first | rfl | (simp (disch:=first|exact za|fail) only [go_sem,seval,-List.reduceReplicate,hp0]<;>rfl)) ?_ ?_
 · simp (disch:=first|exact za|fail) only [go_sem,seval,-List.reduceReplicate,hp0]<;>(repeat' (first | rfl | refine And.intro ?_ ?_))
 rotate_left 1
 intro x env E hQ ihE;simp (disch:=first|exact za|fail) only [go_sem,seval,-List.reduceReplicate,hp0] at E
 rotate_left 1
 · exact⟨Nat.zero_le _,Nat.zero_le _,Nat.zero_le _,fun r hr=>by cases hr⟩
 · obtain⟨i,rl⟩:=x
   obtain⟨q1,q2,q3,q4⟩:=hQ
   dsimp only at q1 q2 q3 q4 E ⊢
   refine .q ?_;refine .cutE [0,1,5,7,8,9] [(27,.p (bo (decide ((i:Int) < (t.length:Int)) && decide ((i:Int) < 20))))] [] (fun ihQ => ?_) (fun env Q => ?_)
   rotate_left 1
   simp (disch:=first|exact za|fail) only [go_sem,seval,-List.reduceReplicate,E,zc,ze] at Q
   rotate_left 1
   · refine .q ?_;refine .text ?_;simp (disch:=first|exact za|fail) only [go_sem,seval,-List.reduceReplicate,E,zc,ze]
     cases hc:decide ((i:Int) < (t.length:Int)) with
     | false =>
      rw [hc,Bool.false_and] at ihQ
      simp (disch:=first|exact za|fail) only [go_sem,seval,-List.reduceReplicate,hc,E,zc,ze]
      first | (refine ihQ _ _ ?_ ?_) | (refine .z rfl ?_;refine ihQ _ _ ?_ ?_) | (refine .z rfl ?_;refine .z rfl ?_;refine ihQ _ _ ?_ ?_) | (refine .z rfl ?_;refine .z rfl ?_;refine .z rfl ?_;refine ihQ _ _ ?_ ?_)
      · simp (disch:=first|exact za|fail) only [go_sem,seval,-List.reduceReplicate,E,zc,ze]<;>(repeat' (first | rfl | refine And.intro ?_ ?_))
      · first | rfl | (simp (disch:=first|exact za|fail) only [go_sem,seval,-List.reduceReplicate,E,zc,ze]<;>(try rfl))
     | true =>
      rw [hc,Bool.true_and] at ihQ
      simp (disch:=first|exact za|fail) only [go_sem,seval,-List.reduceReplicate,hc,E,zc,ze]
      first | (refine ihQ _ _ ?_ ?_) | (refine .z rfl ?_;refine ihQ _ _ ?_ ?_) | (refine .z rfl ?_;refine .z rfl ?_;refine ihQ _ _ ?_ ?_) | (refine .z rfl ?_;refine .z rfl ?_;refine .z rfl ?_;refine ihQ _ _ ?_ ?_)
      · simp (disch:=first|exact za|fail) only [go_sem,seval,-List.reduceReplicate,E,zc,ze]<;>(repeat' (first | rfl | refine And.intro ?_ ?_))
      · first | rfl | (simp (disch:=first|exact za|fail) only [go_sem,seval,-List.reduceReplicate,E,zc,ze]<;>(try rfl))
   cases hc:decide ((i:Int) < (t.length:Int)) && decide ((i:Int) < 20) with
   | true =>
    rw [Bool.and_eq_true,decide_eq_true_eq,decide_eq_true_eq] at hc
    have hil:i < t.length:=by omega
    rw [show (decide ((i:Int) < (t.length:Int)) && decide ((i:Int) < 20))=true by simp;omega] at Q
    refine .q ?_;refine .ifT (by simp (disch:=first|exact za|fail) only [go_sem,seval,-List.reduceReplicate,Q]) ?_
    refine .q ?_;refine .text ?_;simp (disch:=first|exact za|fail) only [go_sem,seval,-List.reduceReplicate,Q,E]
    obtain⟨n,hn⟩ : ∃ n,n=w.toNat % 30:=⟨_,rfl⟩
    have hn30:n < 30:=by rw [hn];exact Nat.mod_lt _ (by decide)
    rw [←hn] at h30
    refine .q ?_;refine .loopT (S:=CpS) [0,1,5,7,9] (fun x=>[(8,.sl (H.n+1) x.l.length 4 (pl zv x.l)),(10,.p (i64 (x.i:Nat)))]) (fun x=>[(H.n+1,.tail x.l.length)]) (fun x=>x.i≤30∧x.l.length≤700 ∧ ∀ r∈x.l,vR r) (fun x=>700 - x.l.length) (⟨0,rl⟩) ?_ (by first | rfl | (simp (disch:=first|exact za|fail) only [go_sem,seval,-List.reduceReplicate,Q,E,zc,ze]<;>rfl)) ?_ ?_
    · simp (disch:=first|exact za|fail) only [go_sem,seval,-List.reduceReplicate,Q,E,zc,ze]<;>(repeat' (first | rfl | refine And.intro ?_ ?_))
    rotate_left 1
    intro x env F hQ ihF;simp (disch:=first|exact za|fail) only [go_sem,seval,-List.reduceReplicate,Q,E,zc,ze] at F
    rotate_left 1
    · exact⟨Nat.zero_le _,q3,q4⟩
    · obtain⟨j,rm⟩:=x
      obtain⟨p1,p2,p3⟩:=hQ
      dsimp only at p1 p2 p3 F ⊢
      refine .q ?_;refine .cutE [0,1,5,7,8,9,10] [(39,.p (bo (decide ((j:Int)≤(n:Int)) && decide ((rm.length:Int) < 700))))] [] (fun ihQ2 => ?_) (fun env Q2 => ?_)
      rotate_left 1
      simp (disch:=first|exact za|fail) only [go_sem,seval,-List.reduceReplicate,F,Q,E,zc,ze] at Q2
      rotate_left 1
      · refine .q ?_;refine .text ?_;simp (disch:=first|exact za|fail) only [go_sem,seval,-List.reduceReplicate,F,Q,E,h30,zc,ze]
        cases hc2:decide ((j:Int)≤(n:Int)) with
        | false =>
         rw [hc2,Bool.false_and] at ihQ2
         simp (disch:=first|exact za|fail) only [go_sem,seval,-List.reduceReplicate,hc2,F,Q,E,h30,zc,ze]
         first | (refine ihQ2 _ _ ?_ ?_) | (refine .z rfl ?_;refine ihQ2 _ _ ?_ ?_) | (refine .z rfl ?_;refine .z rfl ?_;refine ihQ2 _ _ ?_ ?_) | (refine .z rfl ?_;refine .z rfl ?_;refine .z rfl ?_;refine ihQ2 _ _ ?_ ?_)
         · simp (disch:=first|exact za|fail) only [go_sem,seval,-List.reduceReplicate,F,Q,E,zc,ze]<;>(repeat' (first | rfl | refine And.intro ?_ ?_))
         · first | rfl | (simp (disch:=first|exact za|fail) only [go_sem,seval,-List.reduceReplicate,F,Q,E,zc,ze]<;>(try rfl))
        | true =>
         rw [hc2,Bool.true_and] at ihQ2
         simp (disch:=first|exact za|fail) only [go_sem,seval,-List.reduceReplicate,hc2,F,Q,E,h30,zc,ze]
         first | (refine ihQ2 _ _ ?_ ?_) | (refine .z rfl ?_;refine ihQ2 _ _ ?_ ?_) | (refine .z rfl ?_;refine .z rfl ?_;refine ihQ2 _ _ ?_ ?_) | (refine .z rfl ?_;refine .z rfl ?_;refine .z rfl ?_;refine ihQ2 _ _ ?_ ?_)
         · simp (disch:=first|exact za|fail) only [go_sem,seval,-List.reduceReplicate,F,Q,E,zc,ze]<;>(repeat' (first | rfl | refine And.intro ?_ ?_))
         · first | rfl | (simp (disch:=first|exact za|fail) only [go_sem,seval,-List.reduceReplicate,F,Q,E,zc,ze]<;>(try rfl))
      cases hc2:decide ((j:Int)≤(n:Int)) && decide ((rm.length:Int) < 700) with
      | true =>
       rw [hc2] at Q2
       rw [Bool.and_eq_true,decide_eq_true_eq,decide_eq_true_eq] at hc2
       have hmu:700 - (rm++[rdt (nth t i)]).length < 700 - rm.length:=by rw [List.length_append];simp only [List.length_singleton];omega
       have hln:(pl zv rm).length≤700:=by rw [yG];exact p2
       have hs2:pl zv rm++pl zv [rdt (nth t i)]=pl zv (rm++[rdt (nth t i)]):=y9
       have hle:(rm++[rdt (nth t i)]).length=rm.length+1:=by rw [List.length_append];rfl
       have hvv : ∀ r∈rm++[rdt (nth t i)],vR r:=fun r hr=>by
        rcases List.mem_append.1 hr with hr | hr
        · exact p3 r hr
        · rw [List.mem_singleton.1 hr];exact zvD
       refine .q ?_;refine .ifT (by simp (disch:=first|exact za|fail) only [go_sem,seval,-List.reduceReplicate,Q2]) ?_
       refine .q ?_;refine .text ?_;simp (disch:=first|exact za|fail) only [go_sem,seval,-List.reduceReplicate,Q2,F,Q,E,zc,ze,hag,htw,htl]
       refine CallK.of (fun R h=>zdi _ _ _ _ R h) ?_;simp (disch:=first|exact za|fail) only [go_sem,seval,-List.reduceReplicate,Q2,F,Q,E,zc,ze,hrd,hal,hon,yP,hs2,hln]
       refine .q ?_;refine .text ?_;simp (disch:=first|exact za|fail) only [go_sem,seval,-List.reduceReplicate,Q2,F,Q,E,zc,ze]
       first | (refine ihF (⟨j+1,rm++[rdt (nth t i)]⟩) _ _ ?_ ?_ ⟨by dsimp only;omega,by dsimp only;omega,hvv⟩ ?_) | (refine .z rfl ?_;refine ihF (⟨j+1,rm++[rdt (nth t i)]⟩) _ _ ?_ ?_ ⟨by dsimp only;omega,by dsimp only;omega,hvv⟩ ?_) | (refine .z rfl ?_;refine .z rfl ?_;refine ihF (⟨j+1,rm++[rdt (nth t i)]⟩) _ _ ?_ ?_ ⟨by dsimp only;omega,by dsimp only;omega,hvv⟩ ?_) | (refine .z rfl ?_;refine .z rfl ?_;refine .z rfl ?_;refine ihF (⟨j+1,rm++[rdt (nth t i)]⟩) _ _ ?_ ?_ ⟨by dsimp only;omega,by dsimp only;omega,hvv⟩ ?_)
       rotate_left 1
       · simp (disch:=first|exact za|fail) only [go_sem,seval,-List.reduceReplicate,Q2,F,Q,E,zc,ze,yP,hs2,hle]<;>(repeat' (first | rfl | refine And.intro ?_ ?_))
       · first | rfl | (simp (disch:=first|exact za|fail) only [go_sem,seval,-List.reduceReplicate,Q2,F,Q,E,zc,ze,yP,hs2,hle]<;>(try rfl))
       · exact hmu
      | false =>
       rw [hc2] at Q2
       have hmu:20 - (i+1) < 20 - i:=by omega
       refine .q ?_;refine .ifF (by simp (disch:=first|exact za|fail) only [go_sem,seval,-List.reduceReplicate,Q2]) ?_
       refine .q ?_;refine .text ?_;simp (disch:=first|exact za|fail) only [go_sem,seval,-List.reduceReplicate,Q2,F,Q,E,zc,ze]
       first | (refine ihE (⟨i+1,rm⟩) _ _ ?_ ?_ ⟨by dsimp only;omega,by dsimp only;omega,p2,p3⟩ ?_) | (refine .z rfl ?_;refine ihE (⟨i+1,rm⟩) _ _ ?_ ?_ ⟨by dsimp only;omega,by dsimp only;omega,p2,p3⟩ ?_) | (refine .z rfl ?_;refine .z rfl ?_;refine ihE (⟨i+1,rm⟩) _ _ ?_ ?_ ⟨by dsimp only;omega,by dsimp only;omega,p2,p3⟩ ?_) | (refine .z rfl ?_;refine .z rfl ?_;refine .z rfl ?_;refine ihE (⟨i+1,rm⟩) _ _ ?_ ?_ ⟨by dsimp only;omega,by dsimp only;omega,p2,p3⟩ ?_)
       rotate_left 1
       · simp (disch:=first|exact za|fail) only [go_sem,seval,-List.reduceReplicate,Q2,F,Q,E,zc,ze]<;>(repeat' (first | rfl | refine And.intro ?_ ?_))
       · first | rfl | (simp (disch:=first|exact za|fail) only [go_sem,seval,-List.reduceReplicate,Q2,F,Q,E,zc,ze]<;>(try rfl))
       · exact hmu
   | false =>
    rw [hc] at Q
    have hpk:(pkc rl 4).length=4:=zbC
    have hun:=zle q4 (by omega)
    have h0:nth (pkc rl 4) 0=rle (zH rl 0):=rfl
    have h0l:=zey (l:=rl) (k:=0)
    have hd2:decide (2*(rl.length:Int) < ((rle (zH rl 0)).length:Int))=false:=decide_eq_false (by omega)
    have hdr:decide (rl=rl)=true:=by simp
    refine .q ?_;refine .ifF (by simp (disch:=first|exact za|fail) only [go_sem,seval,-List.reduceReplicate,Q]) ?_
    refine .q ?_;refine .text ?_;simp (disch:=first|exact za|fail) only [go_sem,seval,-List.reduceReplicate,Q,E]
    refine CallK.of (fun R h=>zc4 rl (by omega) _ R h) ?_;simp (disch:=first|exact za|fail) only [go_sem,seval,-List.reduceReplicate,Q,E]
    refine .q ?_;refine .text ?_;simp (disch:=first|exact za|fail) only [go_sem,seval,-List.reduceReplicate,Q,E,hgw]
    refine CallK.of (fun R h=>yu (rl.length:Nat) (pkc rl 4) (fun c hc=>by have:=ziM c hc;omega) _ R h) ?_;simp (disch:=first|exact za|fail) only [go_sem,seval,-List.reduceReplicate,Q,E,hun]
    refine .q ?_;refine .text ?_;simp (disch:=first|exact za|fail) only [go_sem,seval,-List.reduceReplicate,Q,E]
    refine CallK.of (fun R h=>zeU rl rl q4 q4 (by omega) _ R h) ?_;simp (disch:=first|exact za|fail) only [go_sem,seval,-List.reduceReplicate,Q,E,hdr,hpk,h0,zaR,hd2]
    refine .q ?_;refine .ifF (by simp (disch:=first|exact za|fail) only [go_sem,seval,-List.reduceReplicate]) ?_
    refine .skip ?_
    by_cases c1:cs.length=4
    rotate_left
    · have d1:((cs.length:Int) != 4)=true:=bne_iff_ne.2 (by omega)
      refine .q ?_;refine .openStill follows (by kernel_rfl) ?_;simp (disch:=first|exact za|fail) only [go_sem,seval,-List.reduceReplicate,List.append_eq,Q,E,d1]
      refine .q ?_;refine .ifT (by simp (disch:=first|exact za|fail) only [go_sem,seval,-List.reduceReplicate]) ?_
      refine .q ?_;refine .text ?_;simp (disch:=first|exact za|fail) only [go_sem,seval,-List.reduceReplicate,Q,E]
      refine .q ?_;refine .rt Tryd.func7 (by rw [Tryd.results7]) (hx:=by simp (disch:=first|exact za|fail) only [go_sem,seval,-List.reduceReplicate,Q,E];rfl) (hR := ?_);simp (disch:=first|exact za|fail) only [go_sem,seval,-List.reduceReplicate,Q,E]
      exact h
    have d1:((cs.length:Int) != 4)=false:=by simp [c1]
    have m0:=hcs _ (zS (by omega:0 < cs.length))
    have m1:=hcs _ (zS (by omega:1 < cs.length))
    have m2:=hcs _ (zS (by omega:2 < cs.length))
    have m3:=hcs _ (zS (by omega:3 < cs.length))
    by_cases c2:5000 < rows
    · have d2:decide ((5000:Int) < rows)=true:=decide_eq_true c2
      refine .q ?_;refine .openStill follows (by kernel_rfl) ?_;simp (disch:=first|exact za|fail) only [go_sem,seval,-List.reduceReplicate,List.append_eq,Q,E,d1,d2]
      refine .q ?_;refine .ifT (by simp (disch:=first|exact za|fail) only [go_sem,seval,-List.reduceReplicate]) ?_
      refine .q ?_;refine .text ?_;simp (disch:=first|exact za|fail) only [go_sem,seval,-List.reduceReplicate,Q,E]
      refine .q ?_;refine .rt Tryd.func7 (by rw [Tryd.results7]) (hx:=by simp (disch:=first|exact za|fail) only [go_sem,seval,-List.reduceReplicate,Q,E];rfl) (hR := ?_);simp (disch:=first|exact za|fail) only [go_sem,seval,-List.reduceReplicate,Q,E]
      exact h
    have d2:decide ((5000:Int) < rows)=false:=decide_eq_false c2
    by_cases c3:400 < (nth cs 0).length+(nth cs 1).length+(nth cs 2).length+(nth cs 3).length
    · have d3:decide ((400:Int) < ((nth cs 0).length:Int)+((nth cs 1).length:Int)+((nth cs 2).length:Int)+((nth cs 3).length:Int))=true:=decide_eq_true (by omega)
      refine .q ?_;refine .openStill follows (by kernel_rfl) ?_;simp (disch:=first|exact za|fail) only [go_sem,seval,-List.reduceReplicate,List.append_eq,Q,E,d1,d2,c1,zaR,d3]
      refine .q ?_;refine .ifT (by simp (disch:=first|exact za|fail) only [go_sem,seval,-List.reduceReplicate]) ?_
      refine .q ?_;refine .text ?_;simp (disch:=first|exact za|fail) only [go_sem,seval,-List.reduceReplicate,Q,E]
      refine .q ?_;refine .rt Tryd.func7 (by rw [Tryd.results7]) (hx:=by simp (disch:=first|exact za|fail) only [go_sem,seval,-List.reduceReplicate,Q,E];rfl) (hR := ?_);simp (disch:=first|exact za|fail) only [go_sem,seval,-List.reduceReplicate,Q,E]
      exact h
    have d3:decide ((400:Int) < ((nth cs 0).length:Int)+((nth cs 1).length:Int)+((nth cs 2).length:Int)+((nth cs 3).length:Int))=false:=decide_eq_false (by omega)
    have hc3 : ∀ c∈cs,c.length≤2000000:=fun c hc=>by
     obtain⟨j,hj,rfl⟩:=List.mem_iff_getElem.1 hc
     rw [←show nth cs j=cs[j] by simp [nth,hj]]
     have:j=0 ∨ j=1 ∨ j=2 ∨ j=3:=by omega
     rcases this with rfl | rfl | rfl | rfl<;>omega
    refine .q ?_;refine .openStill follows (by kernel_rfl) ?_;simp (disch:=first|exact za|fail) only [go_sem,seval,-List.reduceReplicate,List.append_eq,Q,E,d1,d2,c1,zaR,d3]
    refine .q ?_;refine .ifF (by simp (disch:=first|exact za|fail) only [go_sem,seval,-List.reduceReplicate]) ?_
    refine .skip ?_
    refine .q ?_;refine .text ?_;simp (disch:=first|exact za|fail) only [go_sem,seval,-List.reduceReplicate,Q,E,hgw]
    by_cases c4:zgV rows cs
    rotate_left
    · have hu:yC rows cs=([],270):=by unfold yC;rw [if_neg c4]
      refine CallK.of (fun R h=>yu rows cs hc3 _ R h) ?_;simp (disch:=first|exact za|fail) only [go_sem,seval,-List.reduceReplicate,Q,E,hu]
      refine .q ?_;refine .text ?_;simp (disch:=first|exact za|fail) only [go_sem,seval,-List.reduceReplicate,Q,E]
      refine .q ?_;refine .ifT (by simp (disch:=first|exact za|fail) only [go_sem,seval,-List.reduceReplicate]) ?_
      refine .q ?_;refine .text ?_;simp (disch:=first|exact za|fail) only [go_sem,seval,-List.reduceReplicate,Q,E]
      refine .q ?_;refine .rt Tryd.func7 (by rw [Tryd.results7]) (hx:=by simp (disch:=first|exact za|fail) only [go_sem,seval,-List.reduceReplicate,Q,E];rfl) (hR := ?_);simp (disch:=first|exact za|fail) only [go_sem,seval,-List.reduceReplicate,Q,E]
      exact h
    obtain⟨V,hV⟩ : ∃ V,V=zbI rows.toNat (fun k=>nth cs k):=⟨_,rfl⟩
    have hu:yC rows cs=(V,0):=by unfold yC;rw [if_pos c4,hV]
    have hVl:V.length=rows.toNat:=by rw [hV,zk6]
    have hr0:=c4.1
    have hr1:=c4.2.1
    have hVr:(V.length:Int)=rows:=by omega
    have hcol : ∀ k,k < 4 → nth (pkc V 4) k=nth cs k:=fun k hk=>by
     have:=unpack_pack c4.2.2.2 hk
     rw [←hV] at this
     have e:=zam (l:=V) hk
     rw [this] at e
     exact e
    have hpv:(pkc V 4).length=4:=zbC
    have hne:(rows != rows)=false:=by simp
    refine CallK.of (fun R h=>yu rows cs hc3 _ R h) ?_;simp (disch:=first|exact za|fail) only [go_sem,seval,-List.reduceReplicate,Q,E,hu]
    refine .q ?_;refine .text ?_;simp (disch:=first|exact za|fail) only [go_sem,seval,-List.reduceReplicate,Q,E]
    refine .q ?_;refine .ifF (by simp (disch:=first|exact za|fail) only [go_sem,seval,-List.reduceReplicate]) ?_
    refine .skip ?_
    refine .q ?_;refine .text ?_;simp (disch:=first|exact za|fail) only [go_sem,seval,-List.reduceReplicate,Q,E]
    refine CallK.of (fun R h=>zc4 V (by omega) _ R h) ?_;simp (disch:=first|exact za|fail) only [go_sem,seval,-List.reduceReplicate,Q,E,hVr]
    refine .q ?_;refine .text ?_;simp (disch:=first|exact za|fail) only [go_sem,seval,-List.reduceReplicate,Q,E,hVr,hne,hpv]
    refine .q ?_;refine .ifF (by simp (disch:=first|exact za|fail) only [go_sem,seval,-List.reduceReplicate]) ?_
    refine .skip ?_
    refine .q ?_;refine .text ?_;simp (disch:=first|exact za|fail) only [go_sem,seval,-List.reduceReplicate,Q,E]
    have hdq : ∀ c:By,decide (c=c)=true:=fun c=>by simp
    refine .q ?_;refine .loopE [5,7,16] (fun k=>[(17,.p (i64 k))]) (fun k=>[]) (fun k=>True) (0) (4) (by omega) ?_ (by first | rfl | (simp (disch:=first|exact za|fail) only [go_sem,seval,-List.reduceReplicate,Q,E]<;>rfl)) ?_ ?_ ?_
    · simp (disch:=first|exact za|fail) only [go_sem,seval,-List.reduceReplicate,Q,E]<;>(repeat' (first | rfl | refine And.intro ?_ ?_))
    · exact trivial
    intro env M hQ;simp (disch:=first|exact za|fail) only [go_sem,seval,-List.reduceReplicate,Q,E] at M
    rotate_left 1
    intro k env hk0 hk M hQ ihM;simp (disch:=first|exact za|fail) only [go_sem,seval,-List.reduceReplicate,Q,E] at M
    rotate_left 1
    · refine .q ?_;refine .text ?_;simp (disch:=first|exact za|fail) only [go_sem,seval,-List.reduceReplicate,M]
      refine .q ?_;refine .ifF (by simp (disch:=first|exact za|fail) only [go_sem,seval,-List.reduceReplicate]) ?_
      refine .q ?_;refine .text ?_;simp (disch:=first|exact za|fail) only [go_sem,seval,-List.reduceReplicate,M,Q,E]
      refine .q ?_;refine .rt Tryd.func7 (by rw [Tryd.results7]) (hx:=by simp (disch:=first|exact za|fail) only [go_sem,seval,-List.reduceReplicate,M,Q,E];rfl) (hR := ?_);simp (disch:=first|exact za|fail) only [go_sem,seval,-List.reduceReplicate,M,Q,E]
      exact h
    · have hck:=hcol k (by omega)
      refine .q ?_;refine .text ?_;simp (disch:=first|exact za|fail) only [go_sem,seval,-List.reduceReplicate,M]
      refine .q ?_;refine .ifT (by simp (disch:=first|exact za|fail) only [go_sem,seval,-List.reduceReplicate]) ?_
      refine .q ?_;refine .open [] follows (by kernel_rfl) ?_;simp (disch:=first|exact za|fail) only [go_sem,seval,-List.reduceReplicate,M,Q,E,hpv,c1,zaR,hck,zQ,zcg,hdq]
      refine .q ?_;refine .ifF (by simp (disch:=first|exact za|fail) only [go_sem,seval,-List.reduceReplicate]) ?_
      refine .skip ?_
      refine .q ?_;refine .text ?_;simp (disch:=first|exact za|fail) only [go_sem,seval,-List.reduceReplicate,M,Q,E]
      first | (refine ihM _ _ ?_ trivial ?_) | (refine .z rfl ?_;refine ihM _ _ ?_ trivial ?_) | (refine .z rfl ?_;refine .z rfl ?_;refine ihM _ _ ?_ trivial ?_) | (refine .z rfl ?_;refine .z rfl ?_;refine .z rfl ?_;refine ihM _ _ ?_ trivial ?_)
      · simp (disch:=first|exact za|fail) only [go_sem,seval,-List.reduceReplicate,M,Q,E]<;>(repeat' (first | rfl | refine And.intro ?_ ?_))
      · first | rfl | (simp (disch:=first|exact za|fail) only [go_sem,seval,-List.reduceReplicate,M,Q,E]<;>(try rfl))
end walks
end Go.Proofs.YtdpfkanfahchjaaDoor
