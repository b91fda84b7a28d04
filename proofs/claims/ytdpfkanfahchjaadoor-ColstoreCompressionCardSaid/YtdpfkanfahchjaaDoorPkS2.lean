/-
  The log of readings: a stored column read by the program.
-/
import Derived.Test.YtdpfkanfahchjaaDoorPkS1
set_option linter.unusedSimpArgs false
set_option linter.unusedVariables false
namespace Go.Proofs.YtdpfkanfahchjaaDoor
open Go Go.AL

def Thr (b:By) (rows top:Nat):Prop := ∀ j,j < (z8 b).length → (nth (z8 b) j).1.toNat≤top∧(dec ((z8 b).take j)).length≤rows
theorem ziG : ∀ {l m:Prs},dec (l++m)=dec l++dec m
 | [],_=>rfl
 | p :: l,m=>by rw [List.cons_append,dec,dec,ziG,List.append_assoc]
theorem zeQ {l:Prs} {j:Nat}:(dec (l.take j)).length≤(dec l).length:=by
 have h:dec (l.take j)++dec (l.drop j)=dec l:=by rw [←ziG,List.take_append_drop]
 rw [←h,List.length_append]
 omega
theorem zkZ {l:Prs} {j:Nat} (h:j < l.length):dec (l.take j)++List.replicate ((nth l j).2+1) (nth l j).1=dec (l.take (j+1)):=by
 rw [List.take_succ_eq_append_getElem h,ziG]
 congr 1
 have:nth l j=l[j]:=by simp [nth,h]
 rw [this,dec,dec,List.append_nil]
theorem zoj {b:By} {rows top:Nat}:Snd b rows top ↔ b.length % 2=0∧Thr b rows top∧(dec (z8 b)).length=rows∧rle (dec (z8 b))=b:=by
 constructor
 · intro h
   refine⟨h.1,fun j hj=>⟨?_,?_⟩,h.2.2.2,zn7 h⟩
   · refine h.2.1 _ ?_
     have:nth (z8 b) j=(z8 b)[j]:=by simp [nth,hj]
     rw [this];exact List.getElem_mem hj
   · rw [←h.2.2.2];exact zeQ
 · rintro ⟨h1,h2,h3,h4⟩
   refine⟨h1,fun p hp => ?_,(zhr h1).1 h4,h3⟩
   obtain⟨j,hj,rfl⟩:=List.mem_iff_getElem.1 hp
   have:=(h2 j hj).1
   rwa [show nth (z8 b) j=(z8 b)[j] by simp [nth,hj]] at this
theorem zfl : ∀ {b:By} {j:Nat},2*j+1 < b.length → nth (z8 b) j=(nth b (2*j),(nth b (2*j+1)).toNat)
 | [],j,h=>by simp at h
 | [_],j,h=>by simp at h
 | a :: c :: t,0,h=>rfl
 | a :: c :: t,j+1,h=>by
  have:=zfl (b:=t) (j:=j) (by simp at h;omega)
  rw [z8,zY,this,show 2*(j+1)=2*j+1+1 by omega,zY,zY,zY,zY]
open Classical in
noncomputable def zk0 (b:By) (rows top:Nat):PV × Bool :=
 if b.length % 2=0∧Thr b rows top then (.sl false 1 (pl b8 (dec (z8 b))),decide ((dec (z8 b)).length=rows) && decide (rle (dec (z8 b))=b)) else (.sl false 1 [],false)
theorem ztM {b:By} {rows top:Nat} (h:Snd b rows top):zk0 b rows top=(.sl false 1 (pl b8 (dec (z8 b))),true):=by
 have h':=zoj.1 h
 rw [zk0,if_pos ⟨h'.1,h'.2.1⟩,decide_eq_true h'.2.2.1,decide_eq_true h'.2.2.2]
 rfl
theorem ztN {b:By} {rows top:Nat} (h : ¬ Snd b rows top):(zk0 b rows top).2=false:=by
 unfold zk0
 split
 · rename_i q
   refine Bool.eq_false_iff.2 fun e=>h (zoj.2 ⟨q.1,q.2,?_⟩)
   simpa using e
 · rfl
theorem take_one {b:By} {i:Nat} (h:i < b.length):(b.take (i+1)).drop i=[nth b i]:=by
 rw [List.take_succ_eq_append_getElem h,List.drop_left' (by rw [List.length_take];omega)]
 simp [nth,h]
theorem ztO : ∀ {l:Prs},(∀ p∈l,p.2≤255) → (dec l).length≤256*l.length
 | [],_=>Nat.le_refl _
 | p :: l,h=>by
  have:=ztO (l:=l) fun q hq=>h q (by simp [hq])
  have:=h p (by simp)
  rw [dec,List.length_append,List.length_replicate,List.length_cons]
  omega
section walks
variable {G:Globs}
set_option maxHeartbeats 4000000 in
theorem zk1 (b:By) (rows top:Nat) (hb:b.length≤2000000) (hr:rows≤5000) (ht:top≤255) (H:Hp) (R:AV → Hp → Prop) (h:R (.tup [.p (zk0 b rows top).1,.p (bo (zk0 b rows top).2)]) H):ACall Tryd.prog G 55 [.p (.sl false 1 (pl b8 b)),.p (i64 rows),.p (i64 top)] H R:=by
 unfold zk0 at h
 refine ACall.of_run (raw:=[]) Tryd.func55 rfl Tryd.ntmps55 (by simp) fun hbel => ?_
 refine .q ?_;refine .text ?_;simp (disch:=first|exact za|fail) only [go_sem,seval,-List.reduceReplicate]
 refine .q ?_;refine .text ?_;simp (disch:=first|exact za|fail) only [go_sem,seval,-List.reduceReplicate]
 by_cases c0:b.length % 2=0
 rotate_left
 · have d0:((b.length:Int) % 2 == 0)=false:=by simp;omega
   rw [if_neg fun e=>c0 e.1] at h
   refine .q ?_;refine .text ?_;simp (disch:=first|exact za|fail) only [go_sem,seval,-List.reduceReplicate,d0]
   refine .q ?_;refine .ifT (by simp (disch:=first|exact za|fail) only [go_sem,seval,-List.reduceReplicate]) ?_
   refine .q ?_;refine .text ?_;simp (disch:=first|exact za|fail) only [go_sem,seval,-List.reduceReplicate]
   refine .q ?_;refine .rt Tryd.func55 (by rw [Tryd.results55]) (hR := ?_);simp (disch:=first|exact za|fail) only [go_sem,seval,-List.reduceReplicate]
   exact h
 have d0:((b.length:Int) % 2 == 0)=true:=by simp;omega
 have hpl:=zir c0
 refine .q ?_;refine .text ?_;simp (disch:=first|exact za|fail) only [go_sem,seval,-List.reduceReplicate,d0]
 refine .q ?_;refine .ifF (by simp (disch:=first|exact za|fail) only [go_sem,seval,-List.reduceReplicate]) ?_
 refine .skip ?_
 refine .q ?_;refine .text ?_;simp (disch:=first|exact za|fail) only [go_sem,seval,-List.reduceReplicate]
 refine .q ?_;refine .own 8 (by simp (disch:=first|exact za|fail) only [go_sem,seval,-List.reduceReplicate];rfl) ?_
 refine .q ?_;refine .loopE [0,1,2,9] (fun j=>[(8,.sl (H.n+1) j 1 (pl b8 (dec ((z8 b).take j)))),(10,.p (i64 (2*(j:Int))))]) (fun j=>[(H.n+1,.tail j)]) (fun j => ∀ i,i < j → (nth (z8 b) i).1.toNat≤top∧(dec ((z8 b).take i)).length≤rows) (0) ((z8 b).length) (by omega) ?_ (by first | rfl | (simp (disch:=first|exact za|fail) only [go_sem,seval,-List.reduceReplicate,dec]<;>rfl)) ?_ ?_ ?_
 · simp (disch:=first|exact za|fail) only [go_sem,seval,-List.reduceReplicate,dec]<;>(repeat' (first | rfl | refine And.intro ?_ ?_))
 rotate_left 1
 intro env E hQ;simp (disch:=first|exact za|fail) only [go_sem,seval,-List.reduceReplicate,dec] at E
 rotate_left 1
 intro j env hj0 hj E hQ ihE;simp (disch:=first|exact za|fail) only [go_sem,seval,-List.reduceReplicate,dec] at E
 rotate_left 1
 · exact fun j hj=>absurd hj (by omega)
 · rw [if_pos ⟨c0,hQ⟩] at h
   have hall:(z8 b).take (z8 b).length=z8 b:=List.take_length
   have hdl:(2:Int)*((z8 b).length:Int)=(b.length:Int):=by omega
   obtain⟨X,hX⟩ : ∃ X,X=dec (z8 b):=⟨_,rfl⟩
   have hXl:X.length≤1000000000:=by
    have:=ztO (l:=z8 b) zm3
    rw [hX];omega
   refine .q ?_;refine .text ?_;simp (disch:=first|exact za|fail) only [go_sem,seval,-List.reduceReplicate,E,hdl]
   refine .q ?_;refine .ifF (by simp (disch:=first|exact za|fail) only [go_sem,seval,-List.reduceReplicate]) ?_
   refine .q ?_;refine .ownC H.n 0 (by simp (disch:=first|exact za|fail) only [go_sem,seval,-List.reduceReplicate,E,hall];rfl) (by rfl) ?_;simp (disch:=first|exact za|fail) only [go_sem,seval,-List.reduceReplicate,List.set_cons_zero,List.set_cons_succ,E,hall]
   refine zkP fun hbT=>zkQ fun B hB => ?_
   rw [←hB] at hbT
   have hBn:B.n=H.n+3:=by rw [hB];simp (disch:=first|exact za|fail) only [go_sem,seval,-List.reduceReplicate]
   have hBc:B.f H.n=some (.cells [.sl (H.n+2) 0 1 []]):=by rw [hB];simp (disch:=first|exact za|fail) only [go_sem,seval,-List.reduceReplicate]
   have hBt:B.f (H.n+2)=some (.tail 0):=by rw [hB];simp (disch:=first|exact za|fail) only [go_sem,seval,-List.reduceReplicate]
   refine .q ?_;refine .text ?_;simp (disch:=first|exact za|fail) only [go_sem,seval,-List.reduceReplicate,E,hall,←hX]
   refine CallK.of (fun R h=>zhs _ _ R h) ?_;simp (disch:=first|exact za|fail) only [go_sem,seval,-List.reduceReplicate,E]
   refine .q ?_;refine .rangeFunc (ps:=[52]) rfl (by simp (disch:=first|exact za|fail) only [go_sem,seval,-List.reduceReplicate,E];rfl) (by simp (disch:=first|exact za|fail) only [go_sem,seval,-List.reduceReplicate,E]) (by simp) fun L vs hL hvs hround => ?_;simp (disch:=first|exact za|fail) only [go_sem,seval,-List.reduceReplicate,E]
   obtain⟨c,hc⟩ : ∃ c,c=H.n:=⟨_,rfl⟩
   obtain⟨u,hu⟩ : ∃ u,u=H.n+2:=⟨_,rfl⟩
   rw [←hu] at hBc hBt
   rw [←hc] at hBc
   rw [zkS (u:=u) hBc hBt]
   refine zgl X (by omega) (B.n+1) B.n (B.n+2) (fun i=>pkH B c u X i i (.obj vs (L .ready none))) (fun i=>pkH B c u X (i+1) i (.obj vs (L .ready none))) (fun i=>zhv) (fun i=>zhv) (fun i=>zof hbT (by omega) hvs (by simp only [n_new'];omega)) (by omega) (by omega) (fun i=>zfk) (fun i=>zfk) (fun i hi=>zoe) (fun i v n hv K hK => ?_) _ ?_
   · have hbn:=zhv (B:=B) (c:=c) (u:=u) (b:=X) (i:=i) (j:=i) (x := .obj vs (L .ready none))
     refine hround _ _ _ rfl (by unfold pkH;simp (disch:=first|exact za|fail) only [go_sem,seval,-List.reduceReplicate]) fun hbel2 => ?_
     dsimp only
     unfold pkH
     simp (disch:=first|exact za|fail) only [go_sem,seval,-List.reduceReplicate]
     refine .q ?_;refine .text ?_;simp (disch:=first|exact za|fail) only [go_sem,seval,-List.reduceReplicate]
     refine .q ?_;refine .beginRound rfl hL (by simp (disch:=first|exact za|fail) only [go_sem,seval,-List.reduceReplicate];rfl) ?_;simp (disch:=first|exact za|fail) only [go_sem,seval,-List.reduceReplicate]
     have hfs:flq ((grp X).take i)++[v,BitVec.ofInt 8 (n:Int)]=flq ((grp X).take (i+1)):=zkR hv
     have hfl:(flq ((grp X).take i)).length≤3000000000:=by
      rw [zd5,List.length_take]
      have:=zfi (l:=grp X)
      rw [zbz] at this
      omega
     refine .q ?_;refine .text ?_;simp (disch:=first|exact za|fail) only [go_sem,seval,-List.reduceReplicate,E,←hc,hfs]
     (repeat refine .z rfl ?_);refine .roundEnd rfl hL (by simp (disch:=first|exact za|fail) only [go_sem,seval,-List.reduceReplicate];rfl) ?_ ?_
     · refine zbc (zaj hvs (zai (zbd (zak (zd7 hbT (by dsimp only;omega) (by dsimp only;omega))) fun y hy => ?_)) (by simp only [n_new'];omega)) fun y hy => ?_
       · simp [AB.vals] at hy
         subst hy
         exact .sl _ _ _ _ (by dsimp only;omega)
       · simp [AB.vals] at hy
         rcases hy with rfl | rfl<;>exact .p _
     · have hn255:n≤255:=zm4 (v,n) (List.mem_of_getElem? hv)
       have hwr:IntKind.i64.wrap ((n:Int)+1 - 1)=(n:Int):=by rw [show (n:Int)+1 - 1=n by omega];exact yj (by omega) (by omega)
       simp (disch:=first|exact za|fail) only [go_sem,seval,-List.reduceReplicate,hwr,hfs]
       rw [zod (by omega)]
       exact hK
   · have hallg:(grp X).take (grp X).length=grp X:=List.take_length
     unfold pkH
     rw [hallg]
     unfold zdS;refine⟨?_,.inl ⟨(by simp (disch:=first|exact za|fail) only [go_sem,seval,-List.reduceReplicate]<;>rfl),?_⟩⟩;(try dsimp only);(repeat (first | with_reducible exact hbel | with_reducible exact za3 hbel za | with_reducible refine zbU ?_ | with_reducible refine zai ?_ | with_reducible refine zbV ?_ | with_reducible refine zaj hvs ?_ za | with_reducible refine zaz ?_ | with_reducible refine zbW ?_ | with_reducible refine zak ?_ | with_reducible refine zbX ?_ | with_reducible refine zbY ?_));simp (disch:=first|exact za|fail) only [go_sem,seval,-List.reduceReplicate]
     · exact zd7 hbT (by omega) (by omega)
     rw [←hX] at h
     dsimp only at h
     by_cases c3:X.length=rows
     · have g3:((X.length:Int) == (rows:Int))=true:=by simp;omega
       rw [decide_eq_true c3,Bool.true_and] at h
       subst hc hu
       refine .q ?_;refine .text ?_;simp (disch:=first|exact za|fail) only [go_sem,seval,-List.reduceReplicate,E,←hX,g3]
       refine CallK.of (fun R h=>zgn _ b _ R h) ?_;simp (disch:=first|exact za|fail) only [go_sem,seval,-List.reduceReplicate,E,←hX,g3]
       subst hB
       simp (disch:=first|exact za|fail) only [go_sem,seval,-List.reduceReplicate]
       refine .q ?_;refine .rt Tryd.func55 (by rw [Tryd.results55]) (hx:=by simp (disch:=first|exact za|fail) only [go_sem,seval,-List.reduceReplicate,E,←hX];rfl) (hR := ?_);simp (disch:=first|exact za|fail) only [go_sem,seval,-List.reduceReplicate,E,←hX]
       exact h
     · have g3:((X.length:Int) == (rows:Int))=false:=by simp;omega
       rw [decide_eq_false c3,Bool.false_and] at h
       subst hc hu
       refine .q ?_;refine .text ?_;simp (disch:=first|exact za|fail) only [go_sem,seval,-List.reduceReplicate,E,←hX,g3]
       subst hB
       simp (disch:=first|exact za|fail) only [go_sem,seval,-List.reduceReplicate]
       refine .q ?_;refine .rt Tryd.func55 (by rw [Tryd.results55]) (hx:=by simp (disch:=first|exact za|fail) only [go_sem,seval,-List.reduceReplicate,E,←hX];rfl) (hR := ?_);simp (disch:=first|exact za|fail) only [go_sem,seval,-List.reduceReplicate,E,←hX]
       exact h
 · have d1:decide (2*(j:Int) < (b.length:Int))=true:=decide_eq_true (by omega)
   have hpj:=zfl (b:=b) (j:=j) (by omega)
   obtain⟨v,hv⟩ : ∃ v,v=nth b (2*j):=⟨_,rfl⟩
   obtain⟨w,hw⟩ : ∃ w,w=nth b (2*j+1):=⟨_,rfl⟩
   rw [←hv,←hw] at hpj
   have hw255:w.toNat≤255:=by have:=w.isLt;omega
   have hi1:(2*(j:Int)).toNat=2*j:=by omega
   have hi2:(2*(j:Int)+1).toNat=2*j+1:=by omega
   have hsl:=take_one (b:=b) (i:=2*j) (by omega)
   rw [←hv] at hsl
   obtain⟨X,hX⟩ : ∃ X,X=dec ((z8 b).take j):=⟨_,rfl⟩
   refine .q ?_;refine .text ?_;simp (disch:=first|exact za|fail) only [go_sem,seval,-List.reduceReplicate,E,d1]
   refine .q ?_;refine .ifT (by simp (disch:=first|exact za|fail) only [go_sem,seval,-List.reduceReplicate]) ?_
   by_cases c1:(nth (z8 b) j).1.toNat≤top∧X.length≤rows
   · have g1:decide ((top:Int) < (v.toNat:Int))=false:=decide_eq_false (by rw [hpj] at c1;have:=c1.1;dsimp only at this;omega)
     have g2:decide ((rows:Int) < (X.length:Int))=false:=decide_eq_false (by omega)
     refine .q ?_;refine .text ?_;simp (disch:=first|exact za|fail) only [go_sem,seval,-List.reduceReplicate,E,hi1,←hv,g1,←hX,g2]
     refine .q ?_;refine .ifF (by simp (disch:=first|exact za|fail) only [go_sem,seval,-List.reduceReplicate]) ?_
     refine .skip ?_
     have hXl:X.length≤5000:=by omega
     have hw1:IntKind.i64.wrap (w.toNat:Int)=(w.toNat:Int):=yj (by omega) (by omega)
     have hsn:=zkZ hj
     rw [hpj,←hX] at hsn
     dsimp only at hsn
     have hra:((pl b8 (List.replicate (w.toNat+1) v)).all fun y=>y.cells.length == 1)=true:=by rw [List.all_eq_true];intro y hy;simp only [pl,List.mem_map] at hy;obtain⟨z,_,rfl⟩:=hy;rfl
     have hrl:(List.replicate (w.toNat+1) v).length=w.toNat+1:=by simp
     obtain⟨Y,hY⟩ : ∃ Y,Y=List.replicate (w.toNat+1) v:=⟨_,rfl⟩
     rw [←hY] at hsn hra hrl
     refine .q ?_;refine .open [14] follows (by kernel_rfl) ?_;simp (disch:=first|exact za|fail) only [go_sem,seval,-List.reduceReplicate,E,hi1,hi2,←hw,hsl,←hX,hw1]
     refine CallD.still (fun R h=>zkY v w.toNat hw255 _ R h) ?_;simp (disch:=first|exact za|fail) only [go_sem,seval,-List.reduceReplicate,E,hi1,hi2,←hw,hsl,←hX,hw1,←hY,hrl,hra]
     refine .q ?_;refine .text ?_;simp (disch:=first|exact za|fail) only [go_sem,seval,-List.reduceReplicate,E]
     have hq2 : ∀ i,i < j+1 → (nth (z8 b) i).1.toNat≤top∧(dec ((z8 b).take i)).length≤rows:=zm hQ (by rw [←hX];exact c1)
     have hj2:2*(j:Int)+2=2*((j:Int)+1):=by omega
     first | (refine ihE _ _ ?_ hq2 ?_) | (refine .z rfl ?_;refine ihE _ _ ?_ hq2 ?_) | (refine .z rfl ?_;refine .z rfl ?_;refine ihE _ _ ?_ hq2 ?_) | (refine .z rfl ?_;refine .z rfl ?_;refine .z rfl ?_;refine ihE _ _ ?_ hq2 ?_)
     · simp (disch:=first|exact za|fail) only [go_sem,seval,-List.reduceReplicate,E,hsn,hj2]<;>(repeat' (first | rfl | refine And.intro ?_ ?_))
     · first | rfl | (simp (disch:=first|exact za|fail) only [go_sem,seval,-List.reduceReplicate,E,hsn,hj2]<;>(try rfl))
   · have hh:=h
     rw [if_neg fun e=>c1 (by have:=e.2 j hj;rw [←hX] at this;exact this)] at hh
     by_cases c2:(nth (z8 b) j).1.toNat≤top
     · have g1:decide ((top:Int) < (v.toNat:Int))=false:=decide_eq_false (by rw [hpj] at c2;dsimp only at c2;omega)
       have g2:decide ((rows:Int) < (X.length:Int))=true:=decide_eq_true (by have : ¬ X.length≤rows:=fun q=>c1 ⟨c2,q⟩;omega)
       refine .q ?_;refine .text ?_;simp (disch:=first|exact za|fail) only [go_sem,seval,-List.reduceReplicate,E,hi1,←hv,g1,←hX,g2]
       refine .q ?_;refine .ifT (by simp (disch:=first|exact za|fail) only [go_sem,seval,-List.reduceReplicate]) ?_
       refine .q ?_;refine .text ?_;simp (disch:=first|exact za|fail) only [go_sem,seval,-List.reduceReplicate,E]
       refine .q ?_;refine .rt Tryd.func55 (by rw [Tryd.results55]) (hx:=by simp (disch:=first|exact za|fail) only [go_sem,seval,-List.reduceReplicate,E,←hX];rfl) (hR := ?_);simp (disch:=first|exact za|fail) only [go_sem,seval,-List.reduceReplicate,E,←hX]
       exact hh
     · have g1:decide ((top:Int) < (v.toNat:Int))=true:=decide_eq_true (by rw [hpj] at c2;dsimp only at c2;omega)
       refine .q ?_;refine .text ?_;simp (disch:=first|exact za|fail) only [go_sem,seval,-List.reduceReplicate,E,hi1,←hv,g1]
       refine .q ?_;refine .ifT (by simp (disch:=first|exact za|fail) only [go_sem,seval,-List.reduceReplicate]) ?_
       refine .q ?_;refine .text ?_;simp (disch:=first|exact za|fail) only [go_sem,seval,-List.reduceReplicate,E]
       refine .q ?_;refine .rt Tryd.func55 (by rw [Tryd.results55]) (hx:=by simp (disch:=first|exact za|fail) only [go_sem,seval,-List.reduceReplicate,E,←hX];rfl) (hR := ?_);simp (disch:=first|exact za|fail) only [go_sem,seval,-List.reduceReplicate,E,←hX]
       exact hh
end walks
end Go.Proofs.YtdpfkanfahchjaaDoor

/-
  The log of readings: Unpack,by the program.
-/
namespace Go.Proofs.YtdpfkanfahchjaaDoor
open Go Go.AL

/-! Operations with a guard, in a region whose order is open. -/
section gd
variable {C:Cx} {ops:Array Oper} {i:Nat} {o:Oper} {K:Env → Hp → Prop} {env:Env} {H H':Hp}
theorem yR {nt j d:Nat} {want t:Bool} (h1:(ops[j]?).bind (·.dst)=some d) (h2:decide (d < nt)=true) (h3:env d = .p (bo t)) (h4:t=want):zn nt ops (some (j,want)) env=some true:=by
 subst h4
 simp only [zn,h1,of_decide_eq_true h2,if_true,h3,bo,beq_self_eq_true]
theorem zaI (x:AV) (ho:ops[i]? = some o) (hg:zn C.nt ops o.guard env=some true) (hs:zf C.P C.G o.op o.type env H = .val x H) (hd:zr C.nt o.dst=true)
 (hK:K (env.put o.dst x) H):opA C ops false i K env H:=by
 unfold opA
 rw [ho]
 simp only [hg,aOp1,hs,sOp]
 exact⟨hd,hK⟩
theorem zqi {f:FuncId} {xs xs':List AV} {r:AV} (ho:ops[i]? = some o) (hg:zn C.nt ops o.guard env=some true) (hs:zf C.P C.G o.op o.type env H = .call f xs) (hd:zr C.nt o.dst=true)
 (hargs:zE C.raw f xs=xs') (hc : ∀ R:AV → Hp → Prop,R r H' → ACall C.P C.G f xs' H R) (hK:K (env.put o.dst r) H'):opA C ops false i K env H:=by
 unfold opA
 rw [ho]
 simp only [hg,aOp1,hs,sOp,hargs]
 exact⟨hd,hc _ hK⟩
end gd
/-! A new block or none. -/
section ob
variable {B:Hp} {b k:Nat} {x y:AB}
def oB (B:Hp) (o:Option AB):Hp:=match o with | none=>B | some x=>B.new x
section ob
variable {B:Hp} {o:Option AB} {b k:Nat} {x y:AB}
theorem zxT (h:b < B.n):(oB B o).f b=B.f b:=by cases o with | none=>rfl | some x=>exact Hp.f_new_old _ _ _ h
theorem zxU:(oB B none).n=B.n:=rfl
theorem zwI:(oB B none).new x=oB B (some x):=rfl
end ob
end ob
attribute [go_sem] zxT zxU zwI
def seg (rows:Int) (cs:List By):PV := .agg [i64 rows,.sl false 1 (pl (sle 1 b8) cs)]
theorem zal {rows:Int} {cs:List By}:zh (.p (seg rows cs))=some [.p (i64 rows),.p (.sl false 1 (pl (sle 1 b8) cs))]:=rfl
theorem zaR {l:By}:sle 1 b8 l = .sl false 1 (pl b8 l):=rfl
def zcQ (cs:List By) (k:Nat):By:=dec (z8 (nth cs k))
def zgV (rows:Int) (cs:List By):Prop:=0≤rows∧rows≤4096∧cs.length=4∧zkH rows.toNat (fun k=>nth cs k)
open Classical in
noncomputable def yC (rows:Int) (cs:List By):List Rdg × Int:=if zgV rows cs then (zbI rows.toNat (fun k=>nth cs k),0) else ([],270)
/-! Readings whose first columns are told. -/
def zwJ (r:Rdg) (k:Nat) (v:Int):Rdg :=
 match k with
 | 0 => { r with who:=v }
 | 1 => { r with whn:=v }
 | 2 => { r with knd:=v }
 | _ => { r with val:=v }
def cv (cs:List By) (k i:Nat):Int:=((zcQ cs k)[i]?.getD 0#8).toNat
def mkU (cs:List By) (k i:Nat):Rdg:=⟨if 0 < k then cv cs 0 i else 0,if 1 < k then cv cs 1 i else 0,if 2 < k then cv cs 2 i else 0,if 3 < k then cv cs 3 i else 0⟩
def wrU (rows:Nat) (cs:List By) (k i:Nat):List Rdg:=(List.range rows).map fun j=>mkU cs (if j < i then k+1 else k) j
theorem ztP {cs:List By} {k i:Nat} (hk:k < 4):zwJ (mkU cs k i) k (cv cs k i)=mkU cs (k+1) i:=by
 have:k=0 ∨ k=1 ∨ k=2 ∨ k=3:=by omega
 rcases this with rfl | rfl | rfl | rfl<;>rfl
theorem ziH {rows:Nat} {cs:List By} {k i:Nat}:(wrU rows cs k i).length=rows:=by simp [wrU]
theorem zvf {rows:Nat} {cs:List By} {k i:Nat} (h:i < rows):nth (wrU rows cs k i) i=mkU cs k i:=by
 simp [nth,wrU,h]
theorem ztQ {rows:Nat} {cs:List By} {k i:Nat} (hk:k < 4) (h:i < rows):(wrU rows cs k i).set i (zwJ (mkU cs k i) k (cv cs k i))=wrU rows cs k (i+1):=by
 rw [ztP hk]
 apply List.ext_getElem (by simp [wrU])
 intro j h1 h2
 by_cases e:i=j
 · subst e;simp [wrU]
 · rw [List.getElem_set_ne e]
   simp only [wrU,List.getElem_map,List.getElem_range]
   by_cases q:j < i
   · rw [if_pos q,if_pos (by omega)]
   · rw [if_neg q,if_neg (by omega)]
theorem ziI {rows:Nat} {cs:List By} {k:Nat}:wrU rows cs k rows=wrU rows cs (k+1) 0:=by
 apply List.map_congr_left
 intro j hj
 rw [if_pos (List.mem_range.1 hj),if_neg (by omega)]
theorem zvg {rows:Nat} {cs:List By}:wrU rows cs 4 0=zbI rows (fun k=>nth cs k):=by
 apply List.map_congr_left
 intro j _
 rfl
theorem ztR {rows:Nat} {cs:List By}:wrU rows cs 0 0=List.replicate rows ⟨0,0,0,0⟩:=by
 apply List.ext_getElem (by simp [wrU])
 intro j h1 h2
 simp [wrU,mkU]
def rcl (l:List Rdg):List AV:=l.flatMap fun r=>(rdL r).map .p
theorem zgq {l:List Rdg}:rcl l=(flat (pl zv l)).map AV.p:=by
 simp only [rcl,flat,pl,List.flatMap_map,List.map_flatMap]
 rfl
theorem zd9 : ∀ {l:List Rdg},(rcl l).length=l.length*4
 | []=>rfl
 | r :: l=>by
  have:=zd9 (l:=l)
  simp only [rcl,List.flatMap_cons,List.length_append,List.length_map,List.length_cons] at this ⊢
  rw [this,zfj];omega
theorem zok : ∀ {l:List Rdg} {i k:Nat} {v:Int},i < l.length → k < 4 → (rcl l).set (i*4+k) (.p (i64 v))=rcl (l.set i (zwJ (nth l i) k v))
 | [],i,k,v,h,_=>by simp at h
 | r :: l,0,k,v,_,hk=>by
  have:k=0 ∨ k=1 ∨ k=2 ∨ k=3:=by omega
  rcases this with rfl | rfl | rfl | rfl<;>rfl
 | r :: l,i+1,k,v,h,hk=>by
  have ih:=zok (l:=l) (i:=i) (k:=k) (v:=v) (by simpa using h) hk
  rw [List.set_cons_succ,zY]
  show (((rdL r).map AV.p)++rcl l).set _ _=((rdL r).map AV.p)++rcl (l.set i _)
  rw [List.set_append_right _ _ (by rw [List.length_map,zfj];omega),List.length_map,zfj,show (i+1)*4+k - 4=i*4+k by omega,ih]
theorem zhA : ∀ {n:Nat},(zck n [i64 0,i64 0,i64 0,i64 0]).map AV.p=rcl (List.replicate n ⟨0,0,0,0⟩)
 | 0=>rfl
 | n+1=>by
  have ih:=zhA (n:=n)
  unfold zck rcl at ih ⊢
  rw [List.replicate_succ,List.replicate_succ,List.flatten_cons,List.map_append,ih,List.flatMap_cons]
  rfl
theorem zS {α:Type} [Inhabited α] {l:List α} {i:Nat} (h:i < l.length):nth l i∈l:=by
 rw [show nth l i=l[i] by simp [nth,h]];exact List.getElem_mem h
section walks
variable {G:Globs}
theorem zk2 (b o k:Nat) (hk:k < 4) (H:Hp) (hb:b < H.n) (R:AV → Hp → Prop) (h:R (.ptr b (o+k)) H):ACall Tryd.prog G (fnk k) [.ptr b o] H R:=by
 have:k=0 ∨ k=1 ∨ k=2 ∨ k=3:=by omega
 rcases this with rfl | rfl | rfl | rfl
 · exact zix b o H hb R h
 · exact ziy b o H hb R h
 · exact ziz b o H hb R h
 · exact ziA b o H hb R h
set_option maxHeartbeats 4000000 in
set_option maxRecDepth 20000 in
theorem yu (rows:Int) (cs:List By) (hl : ∀ c∈cs,c.length≤2000000) (H:Hp) (R:AV → Hp → Prop) (h:R (.tup [.p (.sl false 4 (pl zv (yC rows cs).1)),.p (i64 (yC rows cs).2)]) H):ACall Tryd.prog G 23 [.p (seg rows cs)] H R:=by
 unfold yC at h
 have bad : ¬ zgV rows cs → R (.tup [.p (.sl false 4 []),.p (i64 270)]) H:=fun e=>by rw [if_neg e] at h;exact h
 refine ACall.of_run (raw:=[]) Tryd.func23 rfl Tryd.ntmps23 (by simp) fun hbel => ?_
 refine .q ?_;refine .text ?_;simp (disch:=first|exact za|fail) only [go_sem,seval,-List.reduceReplicate,zal]
 by_cases c1:rows < 0
 · have d1:decide (rows < 0)=true:=decide_eq_true c1
   refine .q ?_;refine .open [] follows (by kernel_rfl) ?_;simp (disch:=first|exact za|fail) only [go_sem,seval,-List.reduceReplicate,zal,d1]
   refine .q ?_;refine .ifT (by simp (disch:=first|exact za|fail) only [go_sem,seval,-List.reduceReplicate]) ?_
   refine .q ?_;refine .text ?_;simp (disch:=first|exact za|fail) only [go_sem,seval,-List.reduceReplicate]
   refine .q ?_;refine .rt Tryd.func23 (by rw [Tryd.results23]) (hR := ?_);simp (disch:=first|exact za|fail) only [go_sem,seval,-List.reduceReplicate]
   exact bad fun e=>by have:=e.1;omega
 have d1:decide (rows < 0)=false:=decide_eq_false c1
 by_cases c2:4096 < rows
 · have d2:decide (4096 < rows)=true:=decide_eq_true c2
   refine .q ?_;refine .open [] follows (by kernel_rfl) ?_;simp (disch:=first|exact za|fail) only [go_sem,seval,-List.reduceReplicate,zal,d1,d2]
   refine .q ?_;refine .ifT (by simp (disch:=first|exact za|fail) only [go_sem,seval,-List.reduceReplicate]) ?_
   refine .q ?_;refine .text ?_;simp (disch:=first|exact za|fail) only [go_sem,seval,-List.reduceReplicate]
   refine .q ?_;refine .rt Tryd.func23 (by rw [Tryd.results23]) (hR := ?_);simp (disch:=first|exact za|fail) only [go_sem,seval,-List.reduceReplicate]
   exact bad fun e=>by have:=e.2.1;omega
 have d2:decide (4096 < rows)=false:=decide_eq_false c2
 change ARun _ _ _ (oB (H.new (.cells [.p (i64 rows),.p (.sl false 1 (pl (sle 1 b8) cs))])) none) R
 (refine .q ?_)
 refine .openInv (fun L env' H'=>kF env' [(1,.ptr H.n 0)]∧kI L env' [(0,11,.ptr H.n 0),(1,12,.p (i64 rows)),(2,13,.p (bo false)),(3,14,.p (bo false)),(4,15,.ptr H.n 0),(5,16,.p (i64 rows)),(6,17,.p (bo false)),(7,18,.p (bo false)),(8,19,.p (bo false)),(9,20,.ptr H.n 1),(10,21,.p (.sl false 1 (pl (sle 1 b8) cs))),(11,22,.p (i64 cs.length)),(12,23,clm),(13,24,.p (i64 4)),(14,25,.p (bo ((cs.length:Int) != 4))),(15,26,.p (bo ((cs.length:Int) != 4)))]∧(L 12=true → allT L [8])∧H'=(oB (H.new (.cells [.p (i64 rows),.p (.sl false 1 (pl (sle 1 b8) cs))])) (if L 12 then some (.cells ztD) else none))) follows (by kernel_rfl) ?_ ?_ ?_
 · exact⟨(by simp (disch:=first|exact za|fail) only [go_sem,seval,-List.reduceReplicate,kFi,kFn,and_self,d1,d2]),(fun _ _ h=>by cases h),(fun h=>by cases h),(by first | rfl | (simp only [Bool.false_eq_true,if_false];first | rfl | (simp (disch:=first|exact za|fail) only [go_sem,seval,-List.reduceReplicate,d1,d2]<;>rfl)))⟩
 · intro i o L env' H' ho hL hall hI
   obtain⟨KF,KG,m12,rfl⟩:=hI
   rcases i with _ | _ | _ | _ | _ | _ | _ | _ | _ | _ | _ | _ | _ | _ | _ | _ | i
   · cases ho;have f0:=kFg KF 0 rfl;refine zg (.ptr H.n 0) rfl rfl (by simp (disch:=first|exact za|fail) only [go_sem,seval,-List.reduceReplicate,f0,d1,d2]<;>rfl) rfl ?_;exact⟨yp KF,yq KG,ka m12,(by rw [zb (by decide)])⟩
   · cases ho;have d0:=z5 KG 0 rfl (kL hall 0 rfl rfl);refine zg (.p (i64 rows)) rfl rfl (by simp (disch:=first|exact za|fail) only [go_sem,seval,-List.reduceReplicate,d0,d1,d2]<;>rfl) rfl ?_;exact⟨yp KF,yq KG,ka m12,(by rw [zb (by decide)])⟩
   · cases ho;have d1:=z5 KG 1 rfl (kL hall 0 rfl rfl);refine zg (.p (bo false)) rfl rfl (by simp (disch:=first|exact za|fail) only [go_sem,seval,-List.reduceReplicate,d1,d1,d2]<;>rfl) rfl ?_;exact⟨yp KF,yq KG,ka m12,(by rw [zb (by decide)])⟩
   · cases ho;have d2:=z5 KG 2 rfl (kL hall 0 rfl rfl);refine zg (.p (bo false)) rfl rfl (by simp (disch:=first|exact za|fail) only [go_sem,seval,-List.reduceReplicate,d2,d1,d2]<;>rfl) rfl ?_;exact⟨yp KF,yq KG,ka m12,(by rw [zb (by decide)])⟩
   · cases ho;have d3:=z5 KG 3 rfl (kL hall 0 rfl rfl);have f0:=kFg KF 0 rfl;refine zaI (.ptr H.n 0) rfl (yR rfl rfl d3 rfl) (by simp (disch:=first|exact za|fail) only [go_sem,seval,-List.reduceReplicate,f0,d3,d1,d2]<;>rfl) rfl ?_;exact⟨yp KF,yq KG,ka m12,(by rw [zb (by decide)])⟩
   · cases ho;have d4:=z5 KG 4 rfl (kL hall 0 rfl rfl);have d3:=z5 KG 3 rfl (kL hall 1 rfl rfl);refine zaI (.p (i64 rows)) rfl (yR rfl rfl d3 rfl) (by simp (disch:=first|exact za|fail) only [go_sem,seval,-List.reduceReplicate,d3,d4,d1,d2]<;>rfl) rfl ?_;exact⟨yp KF,yq KG,ka m12,(by rw [zb (by decide)])⟩
   · cases ho;have d5:=z5 KG 5 rfl (kL hall 0 rfl rfl);have d3:=z5 KG 3 rfl (kL hall 1 rfl rfl);refine zaI (.p (bo false)) rfl (yR rfl rfl d3 rfl) (by simp (disch:=first|exact za|fail) only [go_sem,seval,-List.reduceReplicate,d3,d5,d1,d2]<;>rfl) rfl ?_;exact⟨yp KF,yq KG,ka m12,(by rw [zb (by decide)])⟩
   · cases ho;have d3:=z5 KG 3 rfl (kL hall 0 rfl rfl);have d6:=z5 KG 6 rfl (kL hall 1 rfl rfl);refine zg (.p (bo false)) rfl rfl (by simp (disch:=first|exact za|fail) only [go_sem,seval,-List.reduceReplicate,d3,d6,d1,d2]<;>rfl) rfl ?_;exact⟨yp KF,yq KG,ka m12,(by rw [zb (by decide)])⟩
   · cases ho;have d7:=z5 KG 7 rfl (kL hall 0 rfl rfl);refine zg (.p (bo false)) rfl rfl (by simp (disch:=first|exact za|fail) only [go_sem,seval,-List.reduceReplicate,d7,d1,d2]<;>rfl) rfl ?_;exact⟨yp KF,yq KG,ka m12,(by rw [zb (by decide)])⟩
   · cases ho;have d8:=z5 KG 8 rfl (kL hall 0 rfl rfl);have f0:=kFg KF 0 rfl;refine zaI (.ptr H.n 1) rfl (yR rfl rfl d8 rfl) (by simp (disch:=first|exact za|fail) only [go_sem,seval,-List.reduceReplicate,f0,d8,d1,d2]<;>rfl) rfl ?_;exact⟨yp KF,yq KG,ka m12,(by rw [zb (by decide)])⟩
   · cases ho;have d9:=z5 KG 9 rfl (kL hall 0 rfl rfl);have d8:=z5 KG 8 rfl (kL hall 1 rfl rfl);refine zaI (.p (.sl false 1 (pl (sle 1 b8) cs))) rfl (yR rfl rfl d8 rfl) (by simp (disch:=first|exact za|fail) only [go_sem,seval,-List.reduceReplicate,d8,d9,d1,d2]<;>rfl) rfl ?_;exact⟨yp KF,yq KG,ka m12,(by rw [zb (by decide)])⟩
   · cases ho;have d10:=z5 KG 10 rfl (kL hall 0 rfl rfl);have d8:=z5 KG 8 rfl (kL hall 1 rfl rfl);refine zaI (.p (i64 cs.length)) rfl (yR rfl rfl d8 rfl) (by simp (disch:=first|exact za|fail) only [go_sem,seval,-List.reduceReplicate,d8,d10,d1,d2]<;>rfl) rfl ?_;exact⟨yp KF,yq KG,ka m12,(by rw [zb (by decide)])⟩
   · cases ho;have h8:=kL hall 0 rfl rfl;have d8:=z5 KG 8 rfl h8;(try simp only [hL,if_true,if_false,Bool.false_eq_true]);refine zqi rfl (yR rfl rfl d8 rfl) (by simp (disch:=first|exact za|fail) only [go_sem,seval,-List.reduceReplicate,reduceIte,Bool.false_eq_true,if_false,if_true,d8,hL,d1,d2]<;>rfl) rfl (by simp (disch:=first|exact za|fail) only [go_sem,seval,-List.reduceReplicate,reduceIte,Bool.false_eq_true,if_false,if_true,d8,hL,d1,d2]<;>rfl) (fun R h=>za1 _ R h) ?_;exact⟨yp KF,yq KG,(fun _=>kt (zi h8 yB)),(by (have e12:more L 12 12=true:=yX);(try simp only [e12,hL]);first | done | rfl | (simp only [e12,hL,if_true,if_false,Bool.false_eq_true];first | done | rfl | (simp (disch:=first|exact za|fail) only [go_sem,seval,-List.reduceReplicate,e12,hL,d1,d2]<;>rfl)))⟩
   · cases ho;have d8:=z5 KG 8 rfl (kL hall 0 rfl rfl);have d12:=z5 KG 12 rfl (kL hall 1 rfl rfl);refine zaI (.p (i64 4)) rfl (yR rfl rfl d8 rfl) (by simp (disch:=first|exact za|fail) only [go_sem,seval,-List.reduceReplicate,d8,d12,d1,d2]<;>rfl) rfl ?_;exact⟨yp KF,yq KG,ka m12,(by rw [zb (by decide)])⟩
   · cases ho;have d11:=z5 KG 11 rfl (kL hall 0 rfl rfl);have d13:=z5 KG 13 rfl (kL hall 1 rfl rfl);have d8:=z5 KG 8 rfl (kL hall 2 rfl rfl);refine zaI (.p (bo ((cs.length:Int) != 4))) rfl (yR rfl rfl d8 rfl) (by simp (disch:=first|exact za|fail) only [go_sem,seval,-List.reduceReplicate,d8,d11,d13,d1,d2]<;>rfl) rfl ?_;exact⟨yp KF,yq KG,ka m12,(by rw [zb (by decide)])⟩
   · cases ho;have d8:=z5 KG 8 rfl (kL hall 0 rfl rfl);have d14:=z5 KG 14 rfl (kL hall 1 rfl rfl);refine zg (.p (bo ((cs.length:Int) != 4))) rfl rfl (by simp (disch:=first|exact za|fail) only [go_sem,seval,-List.reduceReplicate,d8,d14,d1,d2]<;>rfl) rfl ?_;exact⟨yp KF,yq KG,ka m12,(by rw [zb (by decide)])⟩
   · simp at ho
 · intro L env' H' hall hI
   obtain⟨KF,KG,_,rfl⟩:=hI
   have l12:=hall 12 (by decide)
   have f0:=kFg KF 0 rfl
   have g15:=z5 KG 15 rfl (hall 15 (by decide))
   simp only [l12,if_true]
   clear hall
   change ARun _ _ _ ((H.new (.cells [.p (i64 rows),.p (.sl false 1 (pl (sle 1 b8) cs))])).new (.cells ztD)) R
   by_cases c3:cs.length=4
   rotate_left
   · have d3:((cs.length:Int) != 4)=true:=by simp;omega
     refine .q ?_;refine .ifT (by simp (disch:=first|exact za|fail) only [go_sem,seval,-List.reduceReplicate,g15,d3]) ?_
     refine .q ?_;refine .text ?_;simp (disch:=first|exact za|fail) only [go_sem,seval,-List.reduceReplicate]
     refine .q ?_;refine .rt Tryd.func23 (by rw [Tryd.results23]) (hR := ?_);simp (disch:=first|exact za|fail) only [go_sem,seval,-List.reduceReplicate]
     exact bad fun e=>c3 e.2.2.1
   have d3:((cs.length:Int) != 4)=false:=by simp;omega
   obtain⟨n,rfl⟩ : ∃ n:Nat,rows=n:=⟨rows.toNat,by omega⟩
   have hz:(zck n [i64 0,i64 0,i64 0,i64 0]).map AV.p=rcl (wrU n cs 0 0):=by rw [zhA,ztR]
   refine .q ?_;refine .ifF (by simp (disch:=first|exact za|fail) only [go_sem,seval,-List.reduceReplicate,g15,d3]) ?_
   refine .skip ?_
   refine .q ?_;refine .text ?_;simp (disch:=first|exact za|fail) only [go_sem,seval,-List.reduceReplicate,f0]
   rw [hz]
   refine .q ?_;refine .text ?_;simp (disch:=first|exact za|fail) only [go_sem,seval,-List.reduceReplicate,f0]
   refine CallK.of (fun R h=>za1 _ R h) ?_;simp (disch:=first|exact za|fail) only [go_sem,seval,-List.reduceReplicate,f0]
   refine .q ?_;refine .loopF [1,4,30] (fun k=>[(31,.p (i64 k))]) (fun k=>[(H.n+2,.cells (rcl (wrU n cs k 0)))]) (fun k => ∀ j,j < k → Snd (nth cs j) n (top j)) (0) (4) (by omega) ?_ (by first | rfl | (simp (disch:=first|exact za|fail) only [go_sem,seval,-List.reduceReplicate,f0]<;>rfl)) ?_ ?_ ?_
   · simp (disch:=first|exact za|fail) only [go_sem,seval,-List.reduceReplicate,f0]<;>(repeat' (first | rfl | refine And.intro ?_ ?_))
   rotate_left 1
   intro env T E hQ;simp (disch:=first|exact za|fail) only [go_sem,seval,-List.reduceReplicate,f0] at E
   rotate_left 1
   intro k env T hk0 hk E hQ ihE;simp (disch:=first|exact za|fail) only [go_sem,seval,-List.reduceReplicate,f0] at E
   rotate_left 1
   · exact fun j hj=>absurd hj (by omega)
   · refine .q ?_;refine .text ?_;simp (disch:=first|exact za|fail) only [go_sem,seval,-List.reduceReplicate,E]
     refine .q ?_;refine .ifF (by simp (disch:=first|exact za|fail) only [go_sem,seval,-List.reduceReplicate]) ?_
     have hok:zgV (n:Int) cs:=⟨by omega,by omega,c3,fun k hk=>hQ k hk⟩
     rw [if_pos hok,Int.toNat_natCast,←zvg] at h
     refine .q ?_;refine .frzR 4 (xs:=pl zv (wrU n cs 4 0)) (by simp (disch:=first|exact za|fail) only [go_sem,seval,-List.reduceReplicate,E];rfl) (by simp (disch:=first|exact za|fail) only [go_sem,seval,-List.reduceReplicate,E]<;>rfl) zgq (by rw [yG,ziH]) (zoh _) ?_
     simp (disch:=first|exact za|fail) only [go_sem,seval,-List.reduceReplicate,E]
     refine .q ?_;refine .text ?_;simp (disch:=first|exact za|fail) only [go_sem,seval,-List.reduceReplicate,E]
     refine .q ?_;refine .rt Tryd.func23 (by rw [Tryd.results23]) (hx:=by simp (disch:=first|exact za|fail) only [go_sem,seval,-List.reduceReplicate,E];rfl) (hR := ?_);simp (disch:=first|exact za|fail) only [go_sem,seval,-List.reduceReplicate,E]
     exact h
   · obtain⟨T0,rfl⟩ : ∃ T0,T0=T:=⟨_,rfl⟩
     have hQk:=hQ
     refine .q ?_;refine .text ?_;simp (disch:=first|exact za|fail) only [go_sem,seval,-List.reduceReplicate,E]
     refine .q ?_;refine .ifT (by simp (disch:=first|exact za|fail) only [go_sem,seval,-List.reduceReplicate]) ?_
     refine .q ?_;refine .text ?_;simp (disch:=first|exact za|fail) only [go_sem,seval,-List.reduceReplicate,E,zht hk]
     have hck:(nth cs k).length≤2000000:=hl _ (zS (by omega))
     have htk:top k≤255:=by unfold top;split<;>omega
     obtain⟨b,hb⟩ : ∃ b,b=nth cs k:=⟨_,rfl⟩
     rw [←hb] at hck
     refine .q ?_;refine .open [] follows (by kernel_rfl) ?_;simp (disch:=first|exact za|fail) only [go_sem,seval,-List.reduceReplicate,E,f0,←hb,zaR]
     refine CallD.still (fun R h=>zk1 b n (top k) (by omega) (by omega) htk _ R h) ?_;simp (disch:=first|exact za|fail) only [go_sem,seval,-List.reduceReplicate,E,f0,←hb,zaR]
     by_cases hs:Snd b n (top k)
     · rw [ztM hs]
       obtain⟨V,hV⟩ : ∃ V,V=dec (z8 b):=⟨_,rfl⟩
       have hVl:V.length=n:=by rw [hV];exact hs.2.2.2
       rw [←hV]
       simp (disch:=first|exact za|fail) only [go_sem,seval,-List.reduceReplicate,E,f0]
       refine .q ?_;refine .text ?_;simp (disch:=first|exact za|fail) only [go_sem,seval,-List.reduceReplicate,E]
       refine .q ?_;refine .ifF (by simp (disch:=first|exact za|fail) only [go_sem,seval,-List.reduceReplicate]) ?_
       refine .skip ?_
       refine .q ?_;refine .text ?_;simp (disch:=first|exact za|fail) only [go_sem,seval,-List.reduceReplicate,hVl]
       refine .q ?_;refine .loopE [1,4,6,30,31,50,51] (fun i=>[(52,.p (i64 i))]) (fun i=>[(H.n+2,.cells (rcl (wrU n cs k i)))]) (fun i=>True) (0) (n) (by omega) ?_ (by first | rfl | (simp (disch:=first|exact za|fail) only [go_sem,seval,-List.reduceReplicate,E,f0]<;>rfl)) ?_ ?_ ?_
       · simp (disch:=first|exact za|fail) only [go_sem,seval,-List.reduceReplicate,E,f0]<;>(repeat' (first | rfl | refine And.intro ?_ ?_))
       · exact trivial
       intro env W hQ;simp (disch:=first|exact za|fail) only [go_sem,seval,-List.reduceReplicate,E,f0] at W
       rotate_left 1
       intro i env hi0 hi W hQ ihW;simp (disch:=first|exact za|fail) only [go_sem,seval,-List.reduceReplicate,E,f0] at W
       rotate_left 1
       · refine .q ?_;refine .text ?_;simp (disch:=first|exact za|fail) only [go_sem,seval,-List.reduceReplicate,W,E]
         refine .q ?_;refine .ifF (by simp (disch:=first|exact za|fail) only [go_sem,seval,-List.reduceReplicate]) ?_
         refine .q ?_;refine .text ?_;simp (disch:=first|exact za|fail) only [go_sem,seval,-List.reduceReplicate,W,E]
         have hq2 : ∀ j,j < k+1 → Snd (nth cs j) n (top j):=zm hQk (by rw [←hb];exact hs)
         first | (refine ihE _ _ ?_ hq2 ?_) | (refine .z rfl ?_;refine ihE _ _ ?_ hq2 ?_) | (refine .z rfl ?_;refine .z rfl ?_;refine ihE _ _ ?_ hq2 ?_) | (refine .z rfl ?_;refine .z rfl ?_;refine .z rfl ?_;refine ihE _ _ ?_ hq2 ?_)
         · simp (disch:=first|exact za|fail) only [go_sem,seval,-List.reduceReplicate,W,E,f0,ziI]<;>(repeat' (first | rfl | refine And.intro ?_ ?_))
         · first | exact .mk _ rfl | exact .mk [] rfl | (apply Later.mk;simp (disch:=first|exact za|fail) only [go_sem,seval,-List.reduceReplicate,zb0,W,E,f0,ziI];exact rfl) | (apply Later.mk;simp (disch:=first|exact za|fail) only [go_sem,seval,-List.reduceReplicate,zb0,zdT,List.append_assoc,W,E,f0,ziI]<;>(try rfl))
       · have hen:enters Tryd.prog (fnk k)=true:=zgm hk
         have hv:cv cs k i=((nth V i).toNat:Nat):=by
          rw [cv,zcQ,←hb,←hV];rfl
         have hstore:=zok (l:=wrU n cs k i) (i:=i) (k:=k) (v:=cv cs k i) (by rw [ziH];exact hi) hk
         rw [zvf hi,ztQ hk hi,hv] at hstore
         have hrl:(rcl (wrU n cs k i)).length=n*4:=by rw [zd9,ziH]
         refine .q ?_;refine .text ?_;simp (disch:=first|exact za|fail) only [go_sem,seval,-List.reduceReplicate,W,E]
         refine .q ?_;refine .ifT (by simp (disch:=first|exact za|fail) only [go_sem,seval,-List.reduceReplicate]) ?_
         refine .q ?_;refine .text ?_;simp (disch:=first|exact za|fail) only [go_sem,seval,-List.reduceReplicate,W,E]
         refine .q ?_;refine .open [9] follows (by kernel_rfl) ?_;simp (disch:=first|exact za|fail) only [go_sem,seval,-List.reduceReplicate,W,E,hen]
         refine CallD.still (fun R h=>zk2 (H.n+2) (i*4) k hk _ (by simp (disch:=first|exact za|fail) only [go_sem,seval,-List.reduceReplicate]) R h) ?_;simp (disch:=first|exact za|fail) only [go_sem,seval,-List.reduceReplicate,W,E,hen,hrl,hstore]
         refine .q ?_;refine .text ?_;simp (disch:=first|exact za|fail) only [go_sem,seval,-List.reduceReplicate,W,E]
         first | (refine ihW _ _ ?_ trivial ?_) | (refine .z rfl ?_;refine ihW _ _ ?_ trivial ?_) | (refine .z rfl ?_;refine .z rfl ?_;refine ihW _ _ ?_ trivial ?_) | (refine .z rfl ?_;refine .z rfl ?_;refine .z rfl ?_;refine ihW _ _ ?_ trivial ?_)
         · simp (disch:=first|exact za|fail) only [go_sem,seval,-List.reduceReplicate,W,E]<;>(repeat' (first | rfl | refine And.intro ?_ ?_))
         · first | rfl | (simp (disch:=first|exact za|fail) only [go_sem,seval,-List.reduceReplicate,W,E]<;>(try rfl))
     · have he:=ztN hs
       generalize zk0 b n (top k)=X at he
       obtain⟨X1,X2⟩:=X
       dsimp only at he ⊢
       subst he
       refine .q ?_;refine .text ?_;simp (disch:=first|exact za|fail) only [go_sem,seval,-List.reduceReplicate,E,f0]
       refine .q ?_;refine .ifT (by simp (disch:=first|exact za|fail) only [go_sem,seval,-List.reduceReplicate]) ?_
       refine .q ?_;refine .text ?_;simp (disch:=first|exact za|fail) only [go_sem,seval,-List.reduceReplicate,E,f0]
       refine .q ?_;refine .rt Tryd.func23 (by rw [Tryd.results23]) (hx:=by simp (disch:=first|exact za|fail) only [go_sem,seval,-List.reduceReplicate,E];rfl) (hR := ?_);simp (disch:=first|exact za|fail) only [go_sem,seval,-List.reduceReplicate,E]
       exact bad fun e=>hs (by have:=e.2.2.2 k hk;rw [Int.toNat_natCast] at this;dsimp only at this;rw [←hb] at this;exact this)
end walks
end Go.Proofs.YtdpfkanfahchjaaDoor

/-
  The log of readings: a stored column read by the reference.
-/
namespace Go.Proofs.YtdpfkanfahchjaaDoor
open Go Go.AL

def ib (x:BitVec 8):PV:=i64 (x.toNat:Nat)
theorem zqj {b:BitVec 8}:[i64 (b.toNat:Nat)]=pl ib [b]:=rfl
theorem zdE {l:By}:(pl ib l).map PV.weak=pl ib l:=zcY fun _=>rfl
theorem zqk {b:BitVec 8}:((pl ib [b]).all fun y=>y.cells.length == 1)=true:=rfl
def Gd (b:By) (rows top i:Nat):Prop:=(nth (z8 b) i).1.toNat≤top∧(∀ j,i=j+1 → (nth (z8 b) j).1=(nth (z8 b) i).1 → (nth (z8 b) j).2=255)∧(dec ((z8 b).take (i+1))).length≤rows
def Gds (b:By) (rows top:Nat):Prop := ∀ i,i < (z8 b).length → Gd b rows top i
theorem zol : ∀ {l:Prs},(∀ p∈l,p.2≤255) → (∀ j,j+1 < l.length → (nth l j).1=(nth l (j+1)).1 → (nth l j).2=255) → Can l
 | [],_,_=>trivial
 | p :: l,h1,h2=>by
  refine .mk (h1 p (by simp)) (fun q t ht e => ?_) (zol (fun q hq=>h1 q (by simp [hq])) fun j hj=>h2 (j+1) (by simp;omega))
  subst ht
  exact h2 0 (by simp) e
theorem zom : ∀ {l:Prs},Can l → ∀ j,j+1 < l.length → (nth l j).1=(nth l (j+1)).1 → (nth l j).2=255
 | [],_,j,h,_=>by simp at h
 | [_],_,j,h,_=>by simp at h
 | p :: q :: t,hc,0,_,e=>hc.2.1 e
 | p :: q :: t,hc,j+1,h,e=>zom (l:=q :: t) hc.2.2 j (by simp at h ⊢;omega) e
theorem zon {b:By} {rows top:Nat}:Snd b rows top ↔ b.length % 2=0∧Gds b rows top∧(dec (z8 b)).length=rows:=by
 constructor
 · intro h
   refine⟨h.1,fun i hi=>⟨h.2.1 _ (zS hi),fun j hj e => ?_,?_⟩,h.2.2.2⟩
   · subst hj;exact zom h.2.2.1 j hi e
   · rw [←h.2.2.2];exact zeQ
 · rintro ⟨h1,h2,h3⟩
   refine⟨h1,fun p hp => ?_,zol zm3 fun j hj e=>(h2 (j+1) hj).2.1 j rfl e,h3⟩
   obtain⟨j,hj,rfl⟩:=List.mem_iff_getElem.1 hp
   have:=(h2 j hj).1
   rwa [show nth (z8 b) j=(z8 b)[j] by simp [nth,hj]] at this
open Classical in
noncomputable def zk3 (b:By) (rows top:Nat):PV × Bool :=
 if b.length % 2=0∧Gds b rows top then (.sl false 1 (pl ib (dec (z8 b))),decide ((dec (z8 b)).length=rows)) else (.sl false 1 [],false)
theorem ztS {b:By} {rows top:Nat} (h:Snd b rows top):zk3 b rows top=(.sl false 1 (pl ib (dec (z8 b))),true):=by
 have h':=zon.1 h
 rw [zk3,if_pos ⟨h'.1,h'.2.1⟩,decide_eq_true h'.2.2]
theorem ztT {b:By} {rows top:Nat} (h : ¬ Snd b rows top):(zk3 b rows top).2=false:=by
 unfold zk3
 split
 · rename_i q
   exact Bool.eq_false_iff.2 fun e=>h (zon.2 ⟨q.1,q.2,by simpa using e⟩)
 · rfl
section walks
variable {G:Globs}
set_option maxHeartbeats 4000000 in
theorem zk4 (b:By) (rows top:Nat) (hb:b.length≤2000000) (hr:rows≤5000) (ht:top≤255) (H:Hp) (R:AV → Hp → Prop) (h:R (.tup [.p (zk3 b rows top).1,.p (bo (zk3 b rows top).2)]) H):ACall Tryd.prog G 56 [.p (.sl false 1 (pl b8 b)),.p (i64 rows),.p (i64 top)] H R:=by
 unfold zk3 at h
 refine ACall.of_run (raw:=[]) Tryd.func56 rfl Tryd.ntmps56 (by simp) fun hbel => ?_
 refine .q ?_;refine .text ?_;simp (disch:=first|exact za|fail) only [go_sem,seval,-List.reduceReplicate]
 refine .q ?_;refine .text ?_;simp (disch:=first|exact za|fail) only [go_sem,seval,-List.reduceReplicate]
 refine .q ?_;refine .own 8 (by simp (disch:=first|exact za|fail) only [go_sem,seval,-List.reduceReplicate];rfl) ?_
 by_cases c0:b.length % 2=0
 rotate_left
 · have d0:((b.length:Int) % 2 == 0)=false:=by simp;omega
   rw [if_neg fun e=>c0 e.1] at h
   refine .q ?_;refine .text ?_;simp (disch:=first|exact za|fail) only [go_sem,seval,-List.reduceReplicate,d0]
   refine .q ?_;refine .ifT (by simp (disch:=first|exact za|fail) only [go_sem,seval,-List.reduceReplicate]) ?_
   refine .q ?_;refine .text ?_;simp (disch:=first|exact za|fail) only [go_sem,seval,-List.reduceReplicate]
   refine .q ?_;refine .rt Tryd.func56 (by rw [Tryd.results56]) (hR := ?_);simp (disch:=first|exact za|fail) only [go_sem,seval,-List.reduceReplicate]
   exact h
 have d0:((b.length:Int) % 2 == 0)=true:=by simp;omega
 have hpl:=zir c0
 refine .q ?_;refine .text ?_;simp (disch:=first|exact za|fail) only [go_sem,seval,-List.reduceReplicate,d0]
 refine .q ?_;refine .ifF (by simp (disch:=first|exact za|fail) only [go_sem,seval,-List.reduceReplicate]) ?_
 refine .skip ?_
 refine .q ?_;refine .text ?_;simp (disch:=first|exact za|fail) only [go_sem,seval,-List.reduceReplicate]
 refine .q ?_;refine .loopE [0,1,2] (fun j=>[(8,.sl H.n (dec ((z8 b).take j)).length 1 (pl ib (dec ((z8 b).take j)))),(9,.p (i64 (2*(j:Int))))]) (fun j=>[(H.n,.tail (dec ((z8 b).take j)).length)]) (fun j=>(dec ((z8 b).take j)).length≤rows ∧ ∀ i,i < j → Gd b rows top i) (0) ((z8 b).length) (by omega) ?_ (by first | rfl | (simp (disch:=first|exact za|fail) only [go_sem,seval,-List.reduceReplicate,dec]<;>rfl)) ?_ ?_ ?_
 · simp (disch:=first|exact za|fail) only [go_sem,seval,-List.reduceReplicate,dec]<;>(repeat' (first | rfl | refine And.intro ?_ ?_))
 rotate_left 1
 intro env E hQ;simp (disch:=first|exact za|fail) only [go_sem,seval,-List.reduceReplicate,dec] at E
 rotate_left 1
 intro j env hj0 hj E hQ ihE;simp (disch:=first|exact za|fail) only [go_sem,seval,-List.reduceReplicate,dec] at E
 rotate_left 1
 · exact⟨Nat.zero_le _,fun j hj=>absurd hj (by omega)⟩
 · rw [if_pos ⟨c0,hQ.2⟩] at h
   have hall:(z8 b).take (z8 b).length=z8 b:=List.take_length
   have hdl:(2:Int)*((z8 b).length:Int)=(b.length:Int):=by omega
   obtain⟨X,hX⟩ : ∃ X,X=dec (z8 b):=⟨_,rfl⟩
   rw [←hX] at h
   dsimp only at h
   have g3:decide (X.length=rows)=((X.length:Int) == (rows:Int)):=by
    by_cases q:X.length=rows
    · rw [decide_eq_true q];simp;omega
    · rw [decide_eq_false q];simp;omega
   rw [g3] at h
   refine .q ?_;refine .text ?_;simp (disch:=first|exact za|fail) only [go_sem,seval,-List.reduceReplicate,E,hdl]
   refine .q ?_;refine .ifF (by simp (disch:=first|exact za|fail) only [go_sem,seval,-List.reduceReplicate]) ?_
   refine .q ?_;refine .text ?_;simp (disch:=first|exact za|fail) only [go_sem,seval,-List.reduceReplicate,E,hall,←hX]
   refine .q ?_;refine .rt Tryd.func56 (by rw [Tryd.results56]) (hx:=by simp (disch:=first|exact za|fail) only [go_sem,seval,-List.reduceReplicate,E,hall,←hX];rfl) (hR := ?_);simp (disch:=first|exact za|fail) only [go_sem,seval,-List.reduceReplicate,E,hall,←hX]
   exact h
 · have d1:decide (2*(j:Int) < (b.length:Int))=true:=decide_eq_true (by omega)
   have hpj:=zfl (b:=b) (j:=j) (by omega)
   obtain⟨v,hv⟩ : ∃ v,v=nth b (2*j):=⟨_,rfl⟩
   obtain⟨w,hw⟩ : ∃ w,w=nth b (2*j+1):=⟨_,rfl⟩
   rw [←hv,←hw] at hpj
   have hw255:w.toNat≤255:=by have:=w.isLt;omega
   have hi1:(2*(j:Int)).toNat=2*j:=by omega
   have hi2:(2*(j:Int)+1).toNat=2*j+1:=by omega
   obtain⟨X,hX⟩ : ∃ X,X=dec ((z8 b).take j):=⟨_,rfl⟩
   have hXr:X.length≤rows:=by rw [hX];exact hQ.1
   have bad : ¬ Gd b rows top j → R (.tup [.p (.sl false 1 []),.p (bo false)]) H:=fun e=>by rw [if_neg fun q=>e (q.2 j hj)] at h;exact h
   have hQj:=hQ
   refine .q ?_;refine .text ?_;simp (disch:=first|exact za|fail) only [go_sem,seval,-List.reduceReplicate,E,d1]
   refine .q ?_;refine .ifT (by simp (disch:=first|exact za|fail) only [go_sem,seval,-List.reduceReplicate]) ?_
   by_cases c1:top < v.toNat
   · have g1:decide ((top:Int) < (v.toNat:Int))=true:=decide_eq_true (by omega)
     refine .q ?_;refine .open [] follows (by kernel_rfl) ?_;simp (disch:=first|exact za|fail) only [go_sem,seval,-List.reduceReplicate,E,hi1,←hv,g1]
     refine .q ?_;refine .ifT (by simp (disch:=first|exact za|fail) only [go_sem,seval,-List.reduceReplicate]) ?_
     refine .q ?_;refine .text ?_;simp (disch:=first|exact za|fail) only [go_sem,seval,-List.reduceReplicate,E]
     refine .q ?_;refine .rt Tryd.func56 (by rw [Tryd.results56]) (hx:=by simp (disch:=first|exact za|fail) only [go_sem,seval,-List.reduceReplicate,E];rfl) (hR := ?_);simp (disch:=first|exact za|fail) only [go_sem,seval,-List.reduceReplicate,E]
     exact bad fun e=>by have:=e.1;rw [hpj] at this;dsimp only at this;omega
   have g1:decide ((top:Int) < (v.toNat:Int))=false:=decide_eq_false (by omega)
   have back : ∀ i,j=i+1 → ∃ u x,u=nth b (2*i)∧x=nth b (2*i+1)∧nth (z8 b) i=(u,x.toNat)∧(2*(j:Int) - 2).toNat=2*i∧(2*(j:Int) - 1).toNat=2*i+1:=fun i e=>⟨_,_,rfl,rfl,zfl (by omega),by omega,by omega⟩
   by_cases c2 : ∀ i,j=i+1 → (nth (z8 b) i).1=v → (nth (z8 b) i).2=255
   rotate_left
   · have hc2:=Classical.not_forall.1 c2
     obtain⟨i,hc3⟩:=hc2
     obtain⟨hji,hc4⟩:=Classical.not_imp.1 hc3
     obtain⟨hc5,hc6⟩:=Classical.not_imp.1 hc4
     obtain⟨u,x,hu,hx,hpi,e1,e2⟩:=back i hji
     rw [hpi] at hc5 hc6
     dsimp only at hc5 hc6
     have d2:decide ((0:Int) < 2*(j:Int))=true:=decide_eq_true (by omega)
     have d3:(u == v)=true:=by simpa using hc5
     have d4:(x != 255#8)=true:=by
      simp only [bne_iff_ne,ne_eq]
      intro q
      exact hc6 (by rw [q];rfl)
     have l1:2*i < b.length:=by omega
     have l2:2*i+1 < b.length:=by omega
     refine .q ?_;refine .open [] follows (by kernel_rfl) ?_;simp (disch:=first|exact za|fail) only [go_sem,seval,-List.reduceReplicate,E,hi1,←hv,g1,d2,e1,e2,←hu,←hx,d3,d4]
     refine .q ?_;refine .ifT (by simp (disch:=first|exact za|fail) only [go_sem,seval,-List.reduceReplicate]) ?_
     refine .q ?_;refine .text ?_;simp (disch:=first|exact za|fail) only [go_sem,seval,-List.reduceReplicate,E]
     refine .q ?_;refine .rt Tryd.func56 (by rw [Tryd.results56]) (hx:=by simp (disch:=first|exact za|fail) only [go_sem,seval,-List.reduceReplicate,E];rfl) (hR := ?_);simp (disch:=first|exact za|fail) only [go_sem,seval,-List.reduceReplicate,E]
     exact bad fun e=>hc6 (by have:=e.2.1 i hji (by rw [hpi,hpj];exact hc5);rw [hpi] at this;exact this)
   refine .q ?_;refine .cutE [0,1,2,8,9] [(52,.p (bo false))] [] (fun ihF => ?_) (fun env F => ?_)
   rotate_left 1
   simp (disch:=first|exact za|fail) only [go_sem,seval,-List.reduceReplicate,E] at F
   rotate_left 1
   · by_cases c3:j=0
     · have d2:decide ((0:Int) < 2*(j:Int))=false:=decide_eq_false (by omega)
       refine .q ?_;refine .open [] follows (by kernel_rfl) ?_;simp (disch:=first|exact za|fail) only [go_sem,seval,-List.reduceReplicate,E,hi1,←hv,g1,d2]
       first | (refine ihF _ _ ?_ ?_) | (refine .z rfl ?_;refine ihF _ _ ?_ ?_) | (refine .z rfl ?_;refine .z rfl ?_;refine ihF _ _ ?_ ?_) | (refine .z rfl ?_;refine .z rfl ?_;refine .z rfl ?_;refine ihF _ _ ?_ ?_)
       · simp (disch:=first|exact za|fail) only [go_sem,seval,-List.reduceReplicate,E]<;>(repeat' (first | rfl | refine And.intro ?_ ?_))
       · first | rfl | (simp (disch:=first|exact za|fail) only [go_sem,seval,-List.reduceReplicate,E]<;>(try rfl))
     · obtain⟨u,x,hu,hx,hpi,e1,e2⟩:=back (j - 1) (by omega)
       have d2:decide ((0:Int) < 2*(j:Int))=true:=decide_eq_true (by omega)
       have l1:2*(j - 1) < b.length:=by omega
       have l2:2*(j - 1)+1 < b.length:=by omega
       by_cases c4:u=v
       · have d3:(u == v)=true:=by simpa using c4
         have hx255:x=255#8:=by
          have:=c2 (j - 1) (by omega) (by rw [hpi];exact c4)
          rw [hpi] at this
          exact BitVec.eq_of_toNat_eq this
         have d4:(x != 255#8)=false:=by rw [hx255];rfl
         refine .q ?_;refine .open [] follows (by kernel_rfl) ?_;simp (disch:=first|exact za|fail) only [go_sem,seval,-List.reduceReplicate,E,hi1,←hv,g1,d2,e1,e2,←hu,←hx,d3,d4]
         first | (refine ihF _ _ ?_ ?_) | (refine .z rfl ?_;refine ihF _ _ ?_ ?_) | (refine .z rfl ?_;refine .z rfl ?_;refine ihF _ _ ?_ ?_) | (refine .z rfl ?_;refine .z rfl ?_;refine .z rfl ?_;refine ihF _ _ ?_ ?_)
         · simp (disch:=first|exact za|fail) only [go_sem,seval,-List.reduceReplicate,E]<;>(repeat' (first | rfl | refine And.intro ?_ ?_))
         · first | rfl | (simp (disch:=first|exact za|fail) only [go_sem,seval,-List.reduceReplicate,E]<;>(try rfl))
       · have d3:(u == v)=false:=by simpa using c4
         refine .q ?_;refine .open [] follows (by kernel_rfl) ?_;simp (disch:=first|exact za|fail) only [go_sem,seval,-List.reduceReplicate,E,hi1,←hv,g1,d2,e1,e2,←hu,←hx,d3]
         first | (refine ihF _ _ ?_ ?_) | (refine .z rfl ?_;refine ihF _ _ ?_ ?_) | (refine .z rfl ?_;refine .z rfl ?_;refine ihF _ _ ?_ ?_) | (refine .z rfl ?_;refine .z rfl ?_;refine .z rfl ?_;refine ihF _ _ ?_ ?_)
         · simp (disch:=first|exact za|fail) only [go_sem,seval,-List.reduceReplicate,E]<;>(repeat' (first | rfl | refine And.intro ?_ ?_))
         · first | rfl | (simp (disch:=first|exact za|fail) only [go_sem,seval,-List.reduceReplicate,E]<;>(try rfl))
   · refine .q ?_;refine .ifF (by simp (disch:=first|exact za|fail) only [go_sem,seval,-List.reduceReplicate,F]) ?_
     refine .skip ?_
     refine .q ?_;refine .text ?_;simp (disch:=first|exact za|fail) only [go_sem,seval,-List.reduceReplicate,F,E]
     have hsn:=zkZ hj
     rw [hpj,←hX] at hsn
     dsimp only at hsn
     have hsl:(dec ((z8 b).take (j+1))).length=X.length+(w.toNat+1):=by rw [←hsn,List.length_append,List.length_replicate]
     have hw1:IntKind.i64.wrap (w.toNat:Int)=(w.toNat:Int):=yj (by omega) (by omega)
     have l2:2*j+1 < b.length:=by omega
     refine .q ?_;refine .loopE [0,1,2,9] (fun k=>[(8,.sl H.n (X.length+k) 1 (pl ib (X++List.replicate k v))),(10,.p (i64 k))]) (fun k=>[(H.n,.tail (X.length+k))]) (fun k=>True) (0) (w.toNat+1) (by omega) ?_ (by first | rfl | (simp (disch:=first|exact za|fail) only [go_sem,seval,-List.reduceReplicate,F,E,←hX,List.replicate_zero,List.append_nil,Nat.add_zero]<;>rfl)) ?_ ?_ ?_
     · simp (disch:=first|exact za|fail) only [go_sem,seval,-List.reduceReplicate,F,E,←hX,List.replicate_zero,List.append_nil,Nat.add_zero]<;>(repeat' (first | rfl | refine And.intro ?_ ?_))
     · exact trivial
     intro env V hQ;simp (disch:=first|exact za|fail) only [go_sem,seval,-List.reduceReplicate,F,E,←hX,List.replicate_zero,List.append_nil,Nat.add_zero] at V
     rotate_left 1
     intro k env hk0 hk V hQ ihV;simp (disch:=first|exact za|fail) only [go_sem,seval,-List.reduceReplicate,F,E,←hX,List.replicate_zero,List.append_nil,Nat.add_zero] at V
     rotate_left 1
     · have d5:decide (((w.toNat+1:Nat):Int)≤(w.toNat:Int))=false:=decide_eq_false (by omega)
       have hj2:2*(j:Int)+2=2*((j:Int)+1):=by omega
       refine .q ?_;refine .text ?_;simp (disch:=first|exact za|fail) only [go_sem,seval,-List.reduceReplicate,V,F,E,hi2,←hw,hw1,d5]
       refine .q ?_;refine .ifF (by simp (disch:=first|exact za|fail) only [go_sem,seval,-List.reduceReplicate,d5]) ?_
       obtain⟨Y,hY⟩ : ∃ Y,Y=X++List.replicate (w.toNat+1) v:=⟨_,rfl⟩
       have hYl:Y.length=X.length+(w.toNat+1):=by rw [hY,List.length_append,List.length_replicate]
       by_cases c5:rows < Y.length
       · have d6:decide ((rows:Int) < (Y.length:Int))=true:=decide_eq_true (by omega)
         refine .q ?_;refine .text ?_;simp (disch:=first|exact za|fail) only [go_sem,seval,-List.reduceReplicate,V,F,E,←hY,d6]
         refine .q ?_;refine .ifT (by simp (disch:=first|exact za|fail) only [go_sem,seval,-List.reduceReplicate]) ?_
         refine .q ?_;refine .text ?_;simp (disch:=first|exact za|fail) only [go_sem,seval,-List.reduceReplicate,V,F,E]
         refine .q ?_;refine .rt Tryd.func56 (by rw [Tryd.results56]) (hx:=by simp (disch:=first|exact za|fail) only [go_sem,seval,-List.reduceReplicate,V,F,E];rfl) (hR := ?_);simp (disch:=first|exact za|fail) only [go_sem,seval,-List.reduceReplicate,V,F,E]
         exact bad fun e=>by have:=e.2.2;rw [←hsn,←hY] at this;omega
       · have d6:decide ((rows:Int) < (Y.length:Int))=false:=decide_eq_false (by omega)
         refine .q ?_;refine .text ?_;simp (disch:=first|exact za|fail) only [go_sem,seval,-List.reduceReplicate,V,F,E,←hY,d6]
         refine .q ?_;refine .ifF (by simp (disch:=first|exact za|fail) only [go_sem,seval,-List.reduceReplicate]) ?_
         refine .skip ?_
         refine .q ?_;refine .text ?_;simp (disch:=first|exact za|fail) only [go_sem,seval,-List.reduceReplicate,V,F,E]
         have hq2:(dec ((z8 b).take (j+1))).length≤rows ∧ ∀ i,i < j+1 → Gd b rows top i:=by
          refine⟨by rw [hsl];omega,zm hQj.2 ⟨by rw [hpj];dsimp only;omega,fun i hi e => ?_,by rw [hsl];omega⟩⟩
          rw [hpj] at e
          exact c2 i hi e
         first | (refine ihE _ _ ?_ hq2 ?_) | (refine .z rfl ?_;refine ihE _ _ ?_ hq2 ?_) | (refine .z rfl ?_;refine .z rfl ?_;refine ihE _ _ ?_ hq2 ?_) | (refine .z rfl ?_;refine .z rfl ?_;refine .z rfl ?_;refine ihE _ _ ?_ hq2 ?_)
         · simp (disch:=first|exact za|fail) only [go_sem,seval,-List.reduceReplicate,V,F,E,hsn,←hY,hsl,hj2]<;>(repeat' (first | rfl | refine And.intro ?_ ?_))
         · first | rfl | (simp (disch:=first|exact za|fail) only [go_sem,seval,-List.reduceReplicate,V,F,E,hsn,←hY,hsl,hj2]<;>(try rfl))
     · have d5:decide ((k:Int)≤(w.toNat:Int))=true:=decide_eq_true (by omega)
       have hka:X++List.replicate k v++[v]=X++List.replicate (k+1) v:=by rw [List.append_assoc,←List.replicate_succ']
       have hkl:(X++List.replicate k v).length≤6000:=by rw [List.length_append,List.length_replicate];omega
       refine .q ?_;refine .text ?_;simp (disch:=first|exact za|fail) only [go_sem,seval,-List.reduceReplicate,V,F,E,hi2,←hw,hw1,d5]
       refine .q ?_;refine .ifT (by simp (disch:=first|exact za|fail) only [go_sem,seval,-List.reduceReplicate,d5]) ?_
       obtain⟨Y,hY⟩ : ∃ Y,Y=X++List.replicate k v:=⟨_,rfl⟩
       rw [←hY] at hka hkl
       refine .q ?_;refine .text ?_;simp (disch:=first|exact za|fail) only [go_sem,seval,-List.reduceReplicate,V,F,E,hi1,←hv,zqj,zqk,zdE,←hY,hkl]
       refine .q ?_;refine .text ?_;simp (disch:=first|exact za|fail) only [go_sem,seval,-List.reduceReplicate,V,F,E]
       first | (refine ihV _ _ ?_ trivial ?_) | (refine .z rfl ?_;refine ihV _ _ ?_ trivial ?_) | (refine .z rfl ?_;refine .z rfl ?_;refine ihV _ _ ?_ trivial ?_) | (refine .z rfl ?_;refine .z rfl ?_;refine .z rfl ?_;refine ihV _ _ ?_ trivial ?_)
       · simp (disch:=first|exact za|fail) only [go_sem,seval,-List.reduceReplicate,V,F,E,hka,←hY,zdE,y9,Nat.add_assoc]<;>(repeat' (first | rfl | refine And.intro ?_ ?_))
       · first | rfl | (simp (disch:=first|exact za|fail) only [go_sem,seval,-List.reduceReplicate,V,F,E,hka,←hY,zdE,y9,Nat.add_assoc]<;>(try rfl))
end walks
end Go.Proofs.YtdpfkanfahchjaaDoor

/-
  The log of readings: Unpack,by the reference.
-/
namespace Go.Proofs.YtdpfkanfahchjaaDoor
open Go Go.AL

theorem zxv {x:BitVec 8}:ib x=i64 (x.toNat:Nat):=rfl
theorem zvh {l:By}:sle 1 ib l = .sl false 1 (pl ib l):=rfl
def cd (cs:List By) (k:Nat):List By:=(List.range k).map (zcQ cs)
theorem zvi {cs:List By} {k:Nat}:cd cs k++[zcQ cs k]=cd cs (k+1):=by simp [cd,List.range_succ]
theorem zwK {cs:List By} {k:Nat}:(cd cs k).length=k:=by simp [cd]
def znh (n:Nat) (cs:List By) (i:Nat):List Rdg:=(List.range i).map (mkR fun k=>dec (z8 (nth cs k)))
theorem zql {n:Nat} {cs:List By} {i:Nat}:znh n cs i++[mkR (fun k=>dec (z8 (nth cs k))) i]=znh n cs (i+1):=by simp [znh,List.range_succ]
theorem ztU {n:Nat} {cs:List By} {i:Nat}:(znh n cs i).length=i:=by simp [znh]
theorem ztV {k:Nat} (h:k < 4):(2:Int) ^ bits k - 1=(top k:Nat):=by
 have:k=0 ∨ k=1 ∨ k=2 ∨ k=3:=by omega
 rcases this with rfl | rfl | rfl | rfl<;>rfl
section walks
variable {G:Globs}
theorem zni (k:Nat) (hk:k < 4) (H:Hp) (R:AV → Hp → Prop) (h:R (.p (i64 (bits k:Nat))) H):ACall Tryd.prog G 57 [.p (i64 k)] H R:=by
 have:k=0 ∨ k=1 ∨ k=2 ∨ k=3:=by omega
 rcases this with rfl | rfl | rfl | rfl
 all_goals
  refine ACall.of_run (raw:=[]) Tryd.func57 rfl Tryd.ntmps57 (by simp) fun hbel => ?_
  refine .q ?_;refine .text ?_;simp (disch:=first|exact za|fail) only [go_sem,seval,-List.reduceReplicate]
  refine .q ?_;refine .text ?_;simp (disch:=first|exact za|fail) only [go_sem,seval,-List.reduceReplicate]
 · refine .q ?_;refine .ifT (by simp (disch:=first|exact za|fail) only [go_sem,seval,-List.reduceReplicate]) ?_
   refine .q ?_;refine .text ?_;simp (disch:=first|exact za|fail) only [go_sem,seval,-List.reduceReplicate]
   refine .q ?_;refine .rt Tryd.func57 (by rw [Tryd.results57]) (hR := ?_);simp (disch:=first|exact za|fail) only [go_sem,seval,-List.reduceReplicate]
   exact h
 · refine .q ?_;refine .ifF (by simp (disch:=first|exact za|fail) only [go_sem,seval,-List.reduceReplicate]) ?_
   refine .skip ?_
   refine .q ?_;refine .text ?_;simp (disch:=first|exact za|fail) only [go_sem,seval,-List.reduceReplicate]
   refine .q ?_;refine .rt Tryd.func57 (by rw [Tryd.results57]) (hR := ?_);simp (disch:=first|exact za|fail) only [go_sem,seval,-List.reduceReplicate]
   exact h
 · refine .q ?_;refine .ifT (by simp (disch:=first|exact za|fail) only [go_sem,seval,-List.reduceReplicate]) ?_
   refine .q ?_;refine .text ?_;simp (disch:=first|exact za|fail) only [go_sem,seval,-List.reduceReplicate]
   refine .q ?_;refine .rt Tryd.func57 (by rw [Tryd.results57]) (hR := ?_);simp (disch:=first|exact za|fail) only [go_sem,seval,-List.reduceReplicate]
   exact h
 · refine .q ?_;refine .ifF (by simp (disch:=first|exact za|fail) only [go_sem,seval,-List.reduceReplicate]) ?_
   refine .skip ?_
   refine .q ?_;refine .text ?_;simp (disch:=first|exact za|fail) only [go_sem,seval,-List.reduceReplicate]
   refine .q ?_;refine .rt Tryd.func57 (by rw [Tryd.results57]) (hR := ?_);simp (disch:=first|exact za|fail) only [go_sem,seval,-List.reduceReplicate]
   exact h
set_option maxHeartbeats 4000000 in
theorem zea (rows:Int) (cs:List By) (hl : ∀ c∈cs,c.length≤2000000) (H:Hp) (R:AV → Hp → Prop) (h:R (.tup [.p (.sl false 4 (pl zv (yC rows cs).1)),.p (i64 (yC rows cs).2)]) H):ACall Tryd.prog G 24 [.p (seg rows cs)] H R:=by
 unfold yC at h
 have bad : ¬ zgV rows cs → R (.tup [.p (.sl false 4 []),.p (i64 270)]) H:=fun e=>by rw [if_neg e] at h;exact h
 refine ACall.of_run (raw:=[]) Tryd.func24 rfl Tryd.ntmps24 (by simp) fun hbel => ?_
 refine .q ?_;refine .text ?_;simp (disch:=first|exact za|fail) only [go_sem,seval,-List.reduceReplicate,zal]
 by_cases c1:rows < 0
 · have d1:decide (rows < 0)=true:=decide_eq_true c1
   refine .q ?_;refine .text ?_;simp (disch:=first|exact za|fail) only [go_sem,seval,-List.reduceReplicate,zal,d1]
   refine .q ?_;refine .ifT (by simp (disch:=first|exact za|fail) only [go_sem,seval,-List.reduceReplicate]) ?_
   refine .q ?_;refine .text ?_;simp (disch:=first|exact za|fail) only [go_sem,seval,-List.reduceReplicate]
   refine .q ?_;refine .rt Tryd.func24 (by rw [Tryd.results24]) (hR := ?_);simp (disch:=first|exact za|fail) only [go_sem,seval,-List.reduceReplicate]
   exact bad fun e=>by have:=e.1;omega
 have d1:decide (rows < 0)=false:=decide_eq_false c1
 by_cases c2:4096 < rows
 · have d2:decide (4096 < rows)=true:=decide_eq_true c2
   refine .q ?_;refine .text ?_;simp (disch:=first|exact za|fail) only [go_sem,seval,-List.reduceReplicate,zal,d1,d2]
   refine .q ?_;refine .ifT (by simp (disch:=first|exact za|fail) only [go_sem,seval,-List.reduceReplicate]) ?_
   refine .q ?_;refine .text ?_;simp (disch:=first|exact za|fail) only [go_sem,seval,-List.reduceReplicate]
   refine .q ?_;refine .rt Tryd.func24 (by rw [Tryd.results24]) (hR := ?_);simp (disch:=first|exact za|fail) only [go_sem,seval,-List.reduceReplicate]
   exact bad fun e=>by have:=e.2.1;omega
 have d2:decide (4096 < rows)=false:=decide_eq_false c2
 by_cases c3:cs.length=4
 rotate_left
 · have d3:((cs.length:Int) != 4)=true:=by simp;omega
   refine .q ?_;refine .text ?_;simp (disch:=first|exact za|fail) only [go_sem,seval,-List.reduceReplicate,zal,d1,d2,d3]
   refine .q ?_;refine .ifT (by simp (disch:=first|exact za|fail) only [go_sem,seval,-List.reduceReplicate]) ?_
   refine .q ?_;refine .text ?_;simp (disch:=first|exact za|fail) only [go_sem,seval,-List.reduceReplicate]
   refine .q ?_;refine .rt Tryd.func24 (by rw [Tryd.results24]) (hR := ?_);simp (disch:=first|exact za|fail) only [go_sem,seval,-List.reduceReplicate]
   exact bad fun e=>c3 e.2.2.1
 have d3:((cs.length:Int) != 4)=false:=by simp;omega
 obtain⟨n,rfl⟩ : ∃ n:Nat,rows=n:=⟨rows.toNat,by omega⟩
 refine .q ?_;refine .text ?_;simp (disch:=first|exact za|fail) only [go_sem,seval,-List.reduceReplicate,zal,d1,d2,d3]
 refine .q ?_;refine .ifF (by simp (disch:=first|exact za|fail) only [go_sem,seval,-List.reduceReplicate]) ?_
 refine .skip ?_
 refine .q ?_;refine .text ?_;simp (disch:=first|exact za|fail) only [go_sem,seval,-List.reduceReplicate]
 refine .q ?_;refine .own 4 (by simp (disch:=first|exact za|fail) only [go_sem,seval,-List.reduceReplicate];rfl) ?_
 refine .q ?_;refine .text ?_;simp (disch:=first|exact za|fail) only [go_sem,seval,-List.reduceReplicate]
 refine .q ?_;refine .loopE [1] (fun k=>[(4,.sl (H.n+1) k 1 (pl (sle 1 ib) (cd cs k))),(5,.p (i64 k))]) (fun k=>[(H.n+1,.tail k)]) (fun k => ∀ j,j < k → Snd (nth cs j) n (top j)) (0) (4) (by omega) ?_ (by first | rfl | (simp (disch:=first|exact za|fail) only [go_sem,seval,-List.reduceReplicate]<;>rfl)) ?_ ?_ ?_
 · simp (disch:=first|exact za|fail) only [go_sem,seval,-List.reduceReplicate]<;>(repeat' (first | rfl | refine And.intro ?_ ?_))
 rotate_left 1
 intro env E hQ;simp (disch:=first|exact za|fail) only [go_sem,seval,-List.reduceReplicate] at E
 rotate_left 1
 intro k env hk0 hk E hQ ihE;simp (disch:=first|exact za|fail) only [go_sem,seval,-List.reduceReplicate] at E
 rotate_left 1
 · exact fun j hj=>absurd hj (by omega)
 · have hok:zgV (n:Int) cs:=⟨by omega,by omega,c3,fun k hk=>hQ k hk⟩
   rw [if_pos hok,Int.toNat_natCast] at h
   refine .q ?_;refine .text ?_;simp (disch:=first|exact za|fail) only [go_sem,seval,-List.reduceReplicate,E]
   refine .q ?_;refine .ifF (by simp (disch:=first|exact za|fail) only [go_sem,seval,-List.reduceReplicate]) ?_
   refine .q ?_;refine .text ?_;simp (disch:=first|exact za|fail) only [go_sem,seval,-List.reduceReplicate,E]
   refine .q ?_;refine .own 8 (by simp (disch:=first|exact za|fail) only [go_sem,seval,-List.reduceReplicate];rfl) ?_
   refine .q ?_;refine .text ?_;simp (disch:=first|exact za|fail) only [go_sem,seval,-List.reduceReplicate,E]
   obtain⟨c0,hc0⟩ : ∃ c,c=zcQ cs 0:=⟨_,rfl⟩
   obtain⟨c1,hc1⟩ : ∃ c,c=zcQ cs 1:=⟨_,rfl⟩
   obtain⟨c2,hc2⟩ : ∃ c,c=zcQ cs 2:=⟨_,rfl⟩
   obtain⟨c3',hc3⟩ : ∃ c,c=zcQ cs 3:=⟨_,rfl⟩
   have hcs:cd cs 4=[c0,c1,c2,c3']:=by rw [hc0,hc1,hc2,hc3];rfl
   have l0:c0.length=n:=by rw [hc0];exact (hQ 0 (by decide)).2.2.2
   have l1:c1.length=n:=by rw [hc1];exact (hQ 1 (by decide)).2.2.2
   have l2:c2.length=n:=by rw [hc2];exact (hQ 2 (by decide)).2.2.2
   have l3:c3'.length=n:=by rw [hc3];exact (hQ 3 (by decide)).2.2.2
   have hmk : ∀ i,(⟨((nth c0 i).toNat:Nat),((nth c1 i).toNat:Nat),((nth c2 i).toNat:Nat),((nth c3' i).toNat:Nat)⟩:Rdg)=mkR (fun k=>dec (z8 (nth cs k))) i:=fun i=>by rw [hc0,hc1,hc2,hc3];rfl
   refine .q ?_;refine .loopE [1,4] (fun i=>[(8,.sl (H.n+2) i 4 (pl zv (znh n cs i))),(9,.p (i64 i))]) (fun i=>[(H.n+2,.tail i)]) (fun i=>True) (0) (n) (by omega) ?_ (by first | rfl | (simp (disch:=first|exact za|fail) only [go_sem,seval,-List.reduceReplicate,E]<;>rfl)) ?_ ?_ ?_
   · simp (disch:=first|exact za|fail) only [go_sem,seval,-List.reduceReplicate,E]<;>(repeat' (first | rfl | refine And.intro ?_ ?_))
   · exact trivial
   intro env V hQ;simp (disch:=first|exact za|fail) only [go_sem,seval,-List.reduceReplicate,E] at V
   rotate_left 1
   intro i env hi0 hi V hQ ihV;simp (disch:=first|exact za|fail) only [go_sem,seval,-List.reduceReplicate,E] at V
   rotate_left 1
   · refine .q ?_;refine .text ?_;simp (disch:=first|exact za|fail) only [go_sem,seval,-List.reduceReplicate,V,E]
     refine .q ?_;refine .ifF (by simp (disch:=first|exact za|fail) only [go_sem,seval,-List.reduceReplicate]) ?_
     refine .q ?_;refine .text ?_;simp (disch:=first|exact za|fail) only [go_sem,seval,-List.reduceReplicate,V,E]
     refine .q ?_;refine .rt Tryd.func24 (by rw [Tryd.results24]) (hx:=by simp (disch:=first|exact za|fail) only [go_sem,seval,-List.reduceReplicate,V,E];rfl) (hR := ?_);simp (disch:=first|exact za|fail) only [go_sem,seval,-List.reduceReplicate,V,E]
     exact h
   · have hsn:=zql (n:=n) (cs:=cs) (i:=i)
     have hsl:(znh n cs i).length≤5000:=by rw [ztU];omega
     have n0:nth [c0,c1,c2,c3'] 0=c0:=rfl
     have n1:nth [c0,c1,c2,c3'] 1=c1:=rfl
     have n2:nth [c0,c1,c2,c3'] 2=c2:=rfl
     have n3:nth [c0,c1,c2,c3'] 3=c3':=rfl
     have h4:[c0,c1,c2,c3'].length=4:=rfl
     refine .q ?_;refine .text ?_;simp (disch:=first|exact za|fail) only [go_sem,seval,-List.reduceReplicate,V,E]
     refine .q ?_;refine .ifT (by simp (disch:=first|exact za|fail) only [go_sem,seval,-List.reduceReplicate]) ?_
     refine .q ?_;refine .open [27] follows (by kernel_rfl) ?_;simp (disch:=first|exact za|fail) only [go_sem,seval,-List.reduceReplicate,V,E,hcs,n0,n1,n2,n3,h4,zvh,zxv,l0,l1,l2,l3]
     refine .q ?_;refine .text ?_;simp (disch:=first|exact za|fail) only [go_sem,seval,-List.reduceReplicate,V,E]
     have hwk : ∀ r:Rdg,(zv r).weak=zv r:=fun _=>rfl
     first | (refine ihV _ _ ?_ trivial ?_) | (refine .z rfl ?_;refine ihV _ _ ?_ trivial ?_) | (refine .z rfl ?_;refine .z rfl ?_;refine ihV _ _ ?_ trivial ?_) | (refine .z rfl ?_;refine .z rfl ?_;refine .z rfl ?_;refine ihV _ _ ?_ trivial ?_)
     · simp (disch:=first|exact za|fail) only [go_sem,seval,-List.reduceReplicate,V,E,hmk,hwk,zdC,y9,hsn]<;>(repeat' (first | rfl | refine And.intro ?_ ?_))
     · first | rfl | (simp (disch:=first|exact za|fail) only [go_sem,seval,-List.reduceReplicate,V,E,hmk,hwk,zdC,y9,hsn]<;>(try rfl))
 · have hck:(nth cs k).length≤2000000:=hl _ (zS (by omega))
   have htk:top k≤255:=by unfold top;split<;>omega
   have hQk:=hQ
   obtain⟨b,hb⟩ : ∃ b,b=nth cs k:=⟨_,rfl⟩
   rw [←hb] at hck
   have hsb:((bits k:Nat):Int).toNat=bits k:=by omega
   have hb8:bits k≤8:=by unfold bits;split<;>omega
   have hpw:(2:Int) ^ bits k≤2 ^ 8:=by
    have:=Nat.pow_le_pow_right (show 0 < 2 by decide) hb8
    exact_mod_cast this
   have hsh:zo Tryd.prog .shl 3 (.p (i64 1)) (.p (i64 (bits k:Nat)))=some (.p (i64 (2 ^ bits k))):=by
    rw [zbu _ _ _ _ (by omega) (by omega),hsb,Int.one_mul,yj (by have:(0:Int) < 2 ^ bits k:=Int.pow_pos (by decide);omega) (by omega)]
   have htb:=ztV hk
   have hpw0:(0:Int) < 2 ^ bits k:=Int.pow_pos (by decide)
   have hkl:(cd cs k).length≤100:=by rw [zwK];omega
   refine .q ?_;refine .text ?_;simp (disch:=first|exact za|fail) only [go_sem,seval,-List.reduceReplicate,E]
   refine .q ?_;refine .ifT (by simp (disch:=first|exact za|fail) only [go_sem,seval,-List.reduceReplicate]) ?_
   refine .q ?_;refine .open [] follows (by kernel_rfl) ?_;simp (disch:=first|exact za|fail) only [go_sem,seval,-List.reduceReplicate,E,←hb,zaR]
   refine CallD.still (fun R h=>zni k hk _ R h) ?_;simp (disch:=first|exact za|fail) only [go_sem,seval,-List.reduceReplicate,E,←hb,zaR,hsh,htb]
   refine CallD.still (fun R h=>zk4 b n (top k) (by omega) (by omega) htk _ R h) ?_;simp (disch:=first|exact za|fail) only [go_sem,seval,-List.reduceReplicate,E,←hb,zaR]
   by_cases hs:Snd b n (top k)
   · rw [ztS hs]
     have hcb:dec (z8 b)=zcQ cs k:=by rw [zcQ,hb]
     rw [hcb]
     have hone:[PV.sl false 1 (pl ib (zcQ cs k))]=pl (sle 1 ib) [zcQ cs k]:=rfl
     have hwk:(PV.sl false 1 (pl ib (zcQ cs k))).weak=PV.sl false 1 (pl ib (zcQ cs k)):=rfl
     have hall:((pl (sle 1 ib) [zcQ cs k]).all fun x=>x.cells.length == 1)=true:=rfl
     have hw2:(pl (sle 1 ib) [zcQ cs k]).map PV.weak=pl (sle 1 ib) [zcQ cs k]:=rfl
     have hsn:=zvi (cs:=cs) (k:=k)
     simp (disch:=first|exact za|fail) only [go_sem,seval,-List.reduceReplicate,E]
     refine .q ?_;refine .text ?_;simp (disch:=first|exact za|fail) only [go_sem,seval,-List.reduceReplicate,E]
     refine .q ?_;refine .ifF (by simp (disch:=first|exact za|fail) only [go_sem,seval,-List.reduceReplicate]) ?_
     refine .skip ?_
     refine .q ?_;refine .text ?_;simp (disch:=first|exact za|fail) only [go_sem,seval,-List.reduceReplicate,E,hone,hall,hwk,hw2,hkl,hsn]
     refine .q ?_;refine .text ?_;simp (disch:=first|exact za|fail) only [go_sem,seval,-List.reduceReplicate,E]
     have hq2 : ∀ j,j < k+1 → Snd (nth cs j) n (top j):=zm hQk (by rw [←hb];exact hs)
     first | (refine ihE _ _ ?_ hq2 ?_) | (refine .z rfl ?_;refine ihE _ _ ?_ hq2 ?_) | (refine .z rfl ?_;refine .z rfl ?_;refine ihE _ _ ?_ hq2 ?_) | (refine .z rfl ?_;refine .z rfl ?_;refine .z rfl ?_;refine ihE _ _ ?_ hq2 ?_)
     · simp (disch:=first|exact za|fail) only [go_sem,seval,-List.reduceReplicate,E,hsn]<;>(repeat' (first | rfl | refine And.intro ?_ ?_))
     · first | rfl | (simp (disch:=first|exact za|fail) only [go_sem,seval,-List.reduceReplicate,E,hsn]<;>(try rfl))
   · have he:=ztT hs
     generalize zk3 b n (top k)=X at he
     obtain⟨X1,X2⟩:=X
     dsimp only at he ⊢
     subst he
     refine .q ?_;refine .text ?_;simp (disch:=first|exact za|fail) only [go_sem,seval,-List.reduceReplicate,E]
     refine .q ?_;refine .ifT (by simp (disch:=first|exact za|fail) only [go_sem,seval,-List.reduceReplicate]) ?_
     refine .q ?_;refine .text ?_;simp (disch:=first|exact za|fail) only [go_sem,seval,-List.reduceReplicate,E]
     refine .q ?_;refine .rt Tryd.func24 (by rw [Tryd.results24]) (hx:=by simp (disch:=first|exact za|fail) only [go_sem,seval,-List.reduceReplicate,E];rfl) (hR := ?_);simp (disch:=first|exact za|fail) only [go_sem,seval,-List.reduceReplicate,E]
     exact bad fun e=>hs (by have:=e.2.2.2 k hk;rw [Int.toNat_natCast] at this;dsimp only at this;rw [←hb] at this;exact this)
end walks
end Go.Proofs.YtdpfkanfahchjaaDoor

/-
  The log of readings: slices.Clone of flags;retracting,by the program.
-/
namespace Go.AL
open Go
theorem AOps.isNilV {C:Cx} {ops:Array Oper} {rest:List Oper} {k:List Item} {env:Env} {H:Hp} {R:AV → Hp → Prop} {dst:Option Nat} {t t' ty:TypeId} {pos:String} {after:Array Edge} {x:Operand} {e:TypeId} (hu:C.P.underlying t=some (.slice e)) {b len sz:Nat} (hx:zJ C.G env x = .vr b len sz) (hl:0 < len) (hd:zr C.nt dst=true)
 (h:AOps C ops rest k (env.put dst (.p (bo false))) H R) :
 AOps C ops (⟨dst,.binOp .eql t x (.const (.slice none 0 0)) t',ty,pos,after,none⟩ :: rest) k env H R:=by
 refine .of_op true rfl fun σ w a m hpre K Q hK => ?_
 have hr:=zj hpre.rel hpre.fr x
 rw [hx] at hr
 generalize hv:a.eval x=v at hr
 cases hr with | vr hr =>
 obtain⟨_,ad,cap,rfl,hado,_⟩:=hr
 have hn:ad.isNone=false:=by
  have:=hado hl
  cases ad with
  | none=>cases this
  | some a=>rfl
 unfold Oper.wpIn
 refine⟨fun f _=>trivial,?_⟩
 have hsem:Oper.semAt (Fr C σ).round a.eval ⟨dst,.binOp .eql t x (.const (.slice none 0 0)) t',ty,pos,after,none⟩=execOp a.eval ⟨dst,.binOp .eql t x (.const (.slice none 0 0)) t',ty,pos,after,none⟩:=Oper.semAt_eq _ _ _ (fun c h=>by cases h)
 rw [hsem]
 have he:(execOp a.eval ⟨dst,.binOp .eql t x (.const (.slice none 0 0)) t',ty,pos,after,none⟩).run C.P w = .ok (.value (.bool false)) w:=by
  have hc:a.eval (.const (.slice none 0 0)) = .slice none 0 0:=rfl
  simp only [execOp,hv,hc]
  have hg:=zN (P:=C.P) (w:=w) (op := .eql) (t:=t) (xo:=x) (yo := .const (.slice none 0 0)) (a := .slice ad len cap) (b := .slice none 0 0) (by simp) (by simp)
  simp only [Sem.run_bind,hg,Result.andThen_ok,binOp,run_equal_slice_nil w t e ad len cap hu,Sem.run_pure,hn]
 rw [he]
 exact hK (.p (bo false)) (.bool false) H σ w h (zM hd) hpre.rel (.p (.s _ rfl)) (Ev.refl (Nat.le_refl _))
end Go.AL
namespace Go.Proofs.YtdpfkanfahchjaaDoor
open Go Go.AL

theorem flat_bo' {l:List Bool}:flat (pl bo l)=pl bo l:=zfe fun _=>rfl
theorem zwL {a n x b m y:Nat}:zP [.vr a n x,.vr b m y] = .agg [.vr a n x,.vr b m y]:=rfl
theorem zwM {a n x b m y:Nat}:zh (.agg [.vr a n x,.vr b m y])=some [.vr a n x,.vr b m y]:=rfl
theorem zwN {a n x:Nat}:zh (.vr a n x)=some [.vr a n x]:=rfl
attribute [go_sem] zwL zwM zwN
theorem zhB:Tryd.prog.underlying 32=some (.slice 4):=by kernel_rfl
section walks
variable {G:Globs}
theorem zk5 (b:Nat) (g:List Bool) (hg:0 < g.length) (hg2:g.length≤100000) (H:Hp) (hb:H.f b=some (.vec (cl bo g))) (R:AV → Hp → Prop) (h:R (.vr H.n g.length 1) (H.new (.vec (cl bo g)))) :
 ACall Tryd.prog G 72 [.vr b g.length 1] H R:=by
 have hbn:=Hp.lt hb
 have hcl:(cl bo g).length=g.length:=y4
 refine ACall.of_run (raw:=[]) Tryd.func72 rfl Tryd.ntmps72 (by simp) fun hbel => ?_
 refine .q ?_;refine .text ?_;simp (disch:=first|exact za|fail) only [go_sem,seval,-List.reduceReplicate]
 refine .q ?_;refine .region ?_
 refine .one rfl (by simp (disch:=first|exact za|fail) only [go_sem,seval,-List.reduceReplicate]<;>rfl) rfl ?_
 refine .isNilV (b:=b) (len:=g.length) (sz:=1) zhB (by simp (disch:=first|exact za|fail) only [go_sem,seval,-List.reduceReplicate]) hg rfl ?_
 refine .nil ?_
 refine .q ?_;refine .ifF (by simp (disch:=first|exact za|fail) only [go_sem,seval,-List.reduceReplicate]) ?_
 refine .skip ?_
 refine .q ?_;refine .region ?_
 refine .buildVec (sz:=1) (cs:=[]) (by simp (disch:=first|exact za|fail) only [go_sem,seval,-List.reduceReplicate,zW,yz]<;>rfl) (by rfl) ?_
 refine .run ?_
 simp (disch:=first|exact za|fail) only [go_sem,seval,-List.reduceReplicate,hb,hcl,flat_bo']
 refine .q ?_;refine .retKeep Tryd.func72 (by rw [Tryd.results72]) (by simp (disch:=first|exact za|fail) only [go_sem,seval,-List.reduceReplicate];rfl) ?_;(try simp (disch:=first|exact za|fail) only [go_sem,seval,-List.reduceReplicate])
 exact h
theorem zeb (α β:Nat) (l:List Rdg) (g:List Bool) (i:Int) (hl:l.length≤65536) (hg:g.length=l.length) (H:Hp) (hα:H.f α=some (.vec (rcl l))) (hβ:H.f β=some (.vec (cl bo g))) (R:AV → Hp → Prop)
 (bad : ∀ e,(yy ⟨l,g⟩ i)=(z0S,e) → e≠0 → R (.tup [.p (yt z0S),.p (i64 e)]) H)
 (good : ∀ k:Nat,i=k → k < g.length → nth g k=false → R (.tup [.agg [.vr α l.length 4,.vr (H.n+2) g.length 1],.p (i64 0)]) (((H.new (.cells [.vr α l.length 4,.vr β g.length 1])).new (.cells [.vr α l.length 4,.vr (H.n+2) g.length 1])).new (.vec (cl bo (g.set k true))))) :
 ACall Tryd.prog G 52 [.agg [.vr α l.length 4,.vr β g.length 1],.p (i64 i)] H R:=by
 have hαn:=Hp.lt hα
 have hβn:=Hp.lt hβ
 have hcl:(cl bo g).length=g.length:=y4
 have hrl:(rcl l).length=l.length*4:=zd9
 unfold yy at bad
 refine ACall.of_run (raw:=[]) Tryd.func52 rfl Tryd.ntmps52 (by simp) fun hbel => ?_
 refine .q ?_;refine .text ?_;simp (disch:=first|exact za|fail) only [go_sem,seval,-List.reduceReplicate]
 by_cases c1:i < 0
 · have d1:decide (i < 0)=true:=decide_eq_true c1
   refine .q ?_;refine .text ?_;simp (disch:=first|exact za|fail) only [go_sem,seval,-List.reduceReplicate,d1]
   refine .q ?_;refine .ifT (by simp (disch:=first|exact za|fail) only [go_sem,seval,-List.reduceReplicate]) ?_
   refine .q ?_;refine .text ?_;simp (disch:=first|exact za|fail) only [go_sem,seval,-List.reduceReplicate]
   refine .q ?_;refine .rt Tryd.func52 (by rw [Tryd.results52]) (hR := ?_);simp (disch:=first|exact za|fail) only [go_sem,seval,-List.reduceReplicate]
   exact bad 4 (by rw [if_pos (.inl c1)]) (by decide)
 · have d1:decide (i < 0)=false:=decide_eq_false c1
   by_cases c2:(l.length:Int)≤i
   · have d2:decide ((l.length:Int)≤i)=true:=decide_eq_true c2
     refine .q ?_;refine .text ?_;simp (disch:=first|exact za|fail) only [go_sem,seval,-List.reduceReplicate,d1,d2]
     refine .q ?_;refine .ifT (by simp (disch:=first|exact za|fail) only [go_sem,seval,-List.reduceReplicate]) ?_
     refine .q ?_;refine .text ?_;simp (disch:=first|exact za|fail) only [go_sem,seval,-List.reduceReplicate]
     refine .q ?_;refine .rt Tryd.func52 (by rw [Tryd.results52]) (hR := ?_);simp (disch:=first|exact za|fail) only [go_sem,seval,-List.reduceReplicate]
     exact bad 4 (by rw [if_pos (.inr c2)]) (by decide)
   · have d2:decide ((l.length:Int)≤i)=false:=decide_eq_false c2
     rw [if_neg (by dsimp only;omega)] at bad
     obtain⟨k,rfl⟩ : ∃ k:Nat,i=k:=⟨i.toNat,by omega⟩
     rw [Int.toNat_natCast] at bad
     have hk:k < g.length:=by omega
     refine .q ?_;refine .text ?_;simp (disch:=first|exact za|fail) only [go_sem,seval,-List.reduceReplicate,d1,d2]
     refine .q ?_;refine .ifF (by simp (disch:=first|exact za|fail) only [go_sem,seval,-List.reduceReplicate]) ?_
     refine .q ?_;refine .text ?_;simp (disch:=first|exact za|fail) only [go_sem,seval,-List.reduceReplicate,hβ,hcl]
     cases hn:nth g k with
     | true =>
      rw [hn,if_pos rfl] at bad
      refine .q ?_;refine .ifT (by simp (disch:=first|exact za|fail) only [go_sem,seval,-List.reduceReplicate,hn]) ?_
      refine .q ?_;refine .text ?_;simp (disch:=first|exact za|fail) only [go_sem,seval,-List.reduceReplicate]
      refine .q ?_;refine .rt Tryd.func52 (by rw [Tryd.results52]) (hR := ?_);simp (disch:=first|exact za|fail) only [go_sem,seval,-List.reduceReplicate]
      exact bad 120 rfl (by decide)
     | false =>
      refine .q ?_;refine .ifF (by simp (disch:=first|exact za|fail) only [go_sem,seval,-List.reduceReplicate,hn]) ?_
      refine .skip ?_
      refine .q ?_;refine .text ?_;simp (disch:=first|exact za|fail) only [go_sem,seval,-List.reduceReplicate]
      refine CallK.of (fun R h=>zk5 β g (by omega) (by omega) _ (by simp (disch:=first|exact za|fail) only [go_sem,seval,-List.reduceReplicate];exact hβ) R h) ?_;simp (disch:=first|exact za|fail) only [go_sem,seval,-List.reduceReplicate]
      refine .q ?_;refine .text ?_;simp (disch:=first|exact za|fail) only [go_sem,seval,-List.reduceReplicate,hcl]
      refine .q ?_;refine .text ?_;simp (disch:=first|exact za|fail) only [go_sem,seval,-List.reduceReplicate,hcl]
      refine .q ?_;refine .retKeep Tryd.func52 (by rw [Tryd.results52]) (by simp (disch:=first|exact za|fail) only [go_sem,seval,-List.reduceReplicate];rfl) ?_;(try simp (disch:=first|exact za|fail) only [go_sem,seval,-List.reduceReplicate])
      exact good k rfl hk hn
end walks
end Go.Proofs.YtdpfkanfahchjaaDoor

/-
  The log of readings: records,payloads,parts of a log,by the program.
-/
namespace Go.AL
open Go
theorem ARun.nilS {C:Cx} {todo:List Item} {env:Env} {H:Hp} {R:AV → Hp → Prop} (t sz:Nat) (ht:env t = .p (.s (.slice none 0 0))) (h:ARun C todo (env.put (some t) (.p (.sl true sz []))) H R):ARun C todo env H R :=
 .ghost (fun σ w a m hpre=>by
  obtain⟨r1,e1⟩:=zaD hpre.rel (w':=w) (Nat.le_refl _) (fun _ _=>rfl) rfl rfl
  refine⟨σ,hpre.rel,fun i => ?_,e1⟩
  simp only [Env.put]
  by_cases hi:i=t
  · subst hi
    rw [if_pos rfl]
    have hs:=hpre.fr.slot i
    rw [ht] at hs
    generalize a.tmps.getD i undef=v at hs
    cases hs with | p hs =>
    cases hs
    exact .p (.nil _ _)
  · rw [if_neg hi];exact hpre.fr.slot i) h
end Go.AL
namespace Go.Proofs.YtdpfkanfahchjaaDoor
open Go Go.AL

def zgX (b:By):(BitVec 8 × By × By) × Bool:=match spl b with | some q=>(q,true) | none=>((0#8,[],[]),false)
theorem zhC : ∀ {l:List By} {c:By},yh (l++[c])=yh l++(yD 4 c.length++c)
 | [],c=>by simp [yh]
 | x :: l,c=>by rw [List.cons_append,yh,yh,zhC];simp
theorem znj {cs:List By} {i:Nat} (h:i < cs.length):yh (cs.take i)++yD 4 (nth cs i).length++nth cs i=yh (cs.take (i+1)):=by
 rw [List.take_succ_eq_append_getElem h,zhC,show nth cs i=cs[i] by simp [nth,h],List.append_assoc]
theorem zhD : ∀ {l:List By},(yh l).length=4*l.length+(l.map List.length).sum
 | []=>rfl
 | c :: l=>by rw [yh,List.length_append,List.length_append,zC,zhD];simp;omega
section walks
variable {G:Globs}
set_option maxHeartbeats 2000000 in
theorem zec (x n:Nat) (hn:n≤8) (H:Hp) (R:AV → Hp → Prop) (h:R (.sl H.n n 1 (pl b8 (yD n x))) (H.new (.tail n))) :
 ACall Tryd.prog G 53 [.p (.s (.slice none 0 0)),.p (i64 x),.p (i64 n)] H R:=by
 refine ACall.of_run (raw:=[]) Tryd.func53 rfl Tryd.ntmps53 (by simp) fun hbel => ?_
 have hx0:x / 256 ^ 0=x:=by simp
 have hn0:(n:Int) - ((0:Nat):Int)=n:=by omega
 refine .nilS 0 1 rfl ?_
 refine .q ?_;refine .text ?_;simp (disch:=first|exact za|fail) only [go_sem,seval,-List.reduceReplicate]
 refine .q ?_;refine .own 0 (by simp (disch:=first|exact za|fail) only [go_sem,seval,-List.reduceReplicate];rfl) ?_
 refine .q ?_;refine .loopH [] (fun i=>[(0,.sl H.n i 1 (pl b8 (yD i x))),(1,.p (i64 (x / 256 ^ i:Nat))),(2,.p (i64 ((n:Int) - (i:Int))))]) (fun i=>H.new (.tail i)) (fun i=>True) (0) (n) (by omega) ?_ (by first | rfl | (simp (disch:=first|exact za|fail) only [go_sem,seval,-List.reduceReplicate,yD,hx0,hn0]<;>rfl)) ?_ ?_ ?_
 · simp (disch:=first|exact za|fail) only [go_sem,seval,-List.reduceReplicate,yD,hx0,hn0]<;>(repeat' (first | rfl | refine And.intro ?_ ?_))
 · exact trivial
 intro env E hQ;simp (disch:=first|exact za|fail) only [go_sem,seval,-List.reduceReplicate,yD,hx0,hn0] at E
 rotate_left 1
 intro i env hi0 hi E hQ ihE;simp (disch:=first|exact za|fail) only [go_sem,seval,-List.reduceReplicate,yD,hx0,hn0] at E
 rotate_left 1
 · have hd:decide ((0:Int) < (n:Int) - (n:Int))=false:=decide_eq_false (by omega)
   refine .q ?_;refine .text ?_;simp (disch:=first|exact za|fail) only [go_sem,seval,-List.reduceReplicate,E,hd]
   refine .q ?_;refine .ifF (by simp (disch:=first|exact za|fail) only [go_sem,seval,-List.reduceReplicate,Int.sub_self]) ?_
   refine .q ?_;refine .text ?_;simp (disch:=first|exact za|fail) only [go_sem,seval,-List.reduceReplicate,E]
   refine .q ?_;refine .retKeep Tryd.func53 (by rw [Tryd.results53]) (by simp (disch:=first|exact za|fail) only [go_sem,seval,-List.reduceReplicate,E];rfl) ?_;(try simp (disch:=first|exact za|fail) only [go_sem,seval,-List.reduceReplicate,E])
   exact h
 · have hl:(yD i x).length=i:=zC
   have hs:yD i x++[BitVec.ofNat 8 (x / 256 ^ i)]=yD (i+1) x:=leN_snoc.symm
   have hd:decide ((0:Int) < (n:Int) - (i:Int))=true:=decide_eq_true (by omega)
   have hx:((x / 256 ^ i:Nat):Int) / 256=((x / 256 ^ (i+1):Nat):Int):=by
    rw [show (256:Int)=((256:Nat):Int) from rfl,←Int.natCast_ediv,Nat.div_div_eq_div_mul,Nat.pow_succ]
   have hn1:(n:Int) - (i:Int) - 1=(n:Int) - ((i:Int)+1):=by omega
   refine .q ?_;refine .text ?_;simp (disch:=first|exact za|fail) only [go_sem,seval,-List.reduceReplicate,E,hd]
   refine .q ?_;refine .ifT (by simp (disch:=first|exact za|fail) only [go_sem,seval,-List.reduceReplicate,hd]) ?_
   refine .q ?_;refine .text ?_;simp (disch:=first|exact za|fail) only [go_sem,seval,-List.reduceReplicate,E,hl,BitVec.ofInt_natCast,zc5,zc6]
   refine .q ?_;refine .text ?_;simp (disch:=first|exact za|fail) only [go_sem,seval,-List.reduceReplicate,E,ziC,hx]
   refine .q ?_;refine .text ?_;simp (disch:=first|exact za|fail) only [go_sem,seval,-List.reduceReplicate,E,hn1]
   first | (refine ihE _ _ ?_ trivial ?_) | (refine .z rfl ?_;refine ihE _ _ ?_ trivial ?_) | (refine .z rfl ?_;refine .z rfl ?_;refine ihE _ _ ?_ trivial ?_) | (refine .z rfl ?_;refine .z rfl ?_;refine .z rfl ?_;refine ihE _ _ ?_ trivial ?_)
   · simp (disch:=first|exact za|fail) only [go_sem,seval,-List.reduceReplicate,E,hs,ziC,hx,hn1,List.append_assoc,Nat.add_assoc]<;>(repeat' (first | rfl | refine And.intro ?_ ?_))
   · first | rfl | (simp (disch:=first|exact za|fail) only [go_sem,seval,-List.reduceReplicate,E,hs,ziC,hx,hn1,List.append_assoc,Nat.add_assoc]<;>(try rfl))
set_option maxHeartbeats 2000000 in
theorem zeR (hG0:G 0=some (8,[.agg (pl zy inits)])) (hG1:G 1=some (64,[.agg (pl zy ks)])) (k:BitVec 8) (p:By) (hp:p.length≤1000000000) (H:Hp) (R:AV → Hp → Prop) (h:R (.p (.sl false 1 (pl b8 (rcd k p)))) H):ACall Tryd.prog G 45 [.p (b8 k),.p (.sl false 1 (pl b8 p))] H R:=by
 have h4:(yD 4 p.length).length=4:=zC
 have h8:((sha (k :: p)).take 8).length=8:=zu3
 have hkp:(yD 4 p.length++[k]++p).drop 4=k :: p:=by rw [List.append_assoc,List.drop_left' h4];rfl
 have hlen:(yD 4 p.length++[k]++p).length=p.length+5:=by simp [h4];omega
 have hbl:(k :: p).length≤140737488353000:=by rw [List.length_cons];omega
 have hr:yD 4 p.length++[k]++p++(sha (k :: p)).take 8=rcd k p:=by rw [rcd];simp
 refine ACall.of_run (raw:=[53]) Tryd.func45 rfl Tryd.ntmps45 (by simp) fun hbel => ?_
 refine .q ?_;refine .text ?_;simp (disch:=first|exact za|fail) only [go_sem,seval,-List.reduceReplicate]
 refine .q ?_;refine .text ?_;simp (disch:=first|exact za|fail) only [go_sem,seval,-List.reduceReplicate]
 refine CallK.of (fun R h=>zec p.length 4 (by decide) _ R h) ?_;simp (disch:=first|exact za|fail) only [go_sem,seval,-List.reduceReplicate]
 refine .q ?_;refine .text ?_;simp (disch:=first|exact za|fail) only [go_sem,seval,-List.reduceReplicate,zc5,zc6,h4]
 refine .q ?_;refine .text ?_;simp (disch:=first|exact za|fail) only [go_sem,seval,-List.reduceReplicate,hkp]
 refine CallK.of (fun R h=>zkA hG0 hG1 (k :: p) hbl _ R h) ?_;simp (disch:=first|exact za|fail) only [go_sem,seval,-List.reduceReplicate]
 have hsl:(sha (k :: p)).length=32:=zd2 _
 generalize sha (k :: p)=d at hr h8 hsl ⊢
 refine .q ?_;refine .text ?_;simp (disch:=first|exact za|fail) only [go_sem,seval,-List.reduceReplicate,hsl,hlen,h8,hr]
 refine .q ?_;refine .rt Tryd.func45 (by rw [Tryd.results45]) (hx:=by simp (disch:=first|exact za|fail) only [go_sem,seval,-List.reduceReplicate,hr];rfl) (hR := ?_);simp (disch:=first|exact za|fail) only [go_sem,seval,-List.reduceReplicate,hr]
 exact h
set_option maxHeartbeats 2000000 in
theorem ziJ (rows:Nat) (cs:List By) (hn:cs.length≤1000) (hl : ∀ c∈cs,c.length≤1000000) (H:Hp) (R:AV → Hp → Prop) (h:R (.p (.sl false 1 (pl b8 (zp6 rows cs)))) H):ACall Tryd.prog G 46 [.p (seg rows cs)] H R:=by
 have h2:(yD 2 rows).length=2:=zC
 have hb : ∀ i,i≤cs.length → (yD 2 rows++yh (cs.take i)).length≤2000000000:=fun i hi=>by
  have key : ∀ l:List By,(∀ c∈l,c.length≤1000000) → (l.map List.length).sum≤1000000*l.length:=by
   intro l
   induction l with
   | nil=>intro _;exact Nat.le_refl _
   | cons x l ih =>
    intro h
    have h1:=ih fun c hc=>h c (by simp [hc])
    have h2:=h x (by simp)
    simp only [List.map_cons,List.sum_cons,List.length_cons]
    omega
  have:=key (cs.take i) fun c hc=>hl c (List.mem_of_mem_take hc)
  rw [List.length_append,h2,zhD,List.length_take]
  rw [List.length_take] at this
  omega
 refine ACall.of_run (raw:=[53]) Tryd.func46 rfl Tryd.ntmps46 (by simp) fun hbel => ?_
 refine .q ?_;refine .text ?_;simp (disch:=first|exact za|fail) only [go_sem,seval,-List.reduceReplicate,zal]
 refine .q ?_;refine .text ?_;simp (disch:=first|exact za|fail) only [go_sem,seval,-List.reduceReplicate]
 refine CallK.of (fun R h=>zec rows 2 (by decide) _ R h) ?_;simp (disch:=first|exact za|fail) only [go_sem,seval,-List.reduceReplicate]
 refine .q ?_;refine .text ?_;simp (disch:=first|exact za|fail) only [go_sem,seval,-List.reduceReplicate]
 have w0:yD 2 rows++yh (cs.take 0)=yD 2 rows:=by simp [yh]
 refine .q ?_;refine .loopE [10,11] (fun i=>[(3,.sl (H.n+1) (2+5*i) 1 (pl b8 (yD 2 rows++yh (cs.take i)))),(12,.p (i64 i))]) (fun i=>[(H.n+1,.tail (2+5*i))]) (fun i=>True) (0) (cs.length) (by omega) ?_ (by first | rfl | (simp (disch:=first|exact za|fail) only [go_sem,seval,-List.reduceReplicate,w0]<;>rfl)) ?_ ?_ ?_
 · simp (disch:=first|exact za|fail) only [go_sem,seval,-List.reduceReplicate,w0]<;>(repeat' (first | rfl | refine And.intro ?_ ?_))
 · exact trivial
 intro env E hQ;simp (disch:=first|exact za|fail) only [go_sem,seval,-List.reduceReplicate,w0] at E
 rotate_left 1
 intro i env hi0 hi E hQ ihE;simp (disch:=first|exact za|fail) only [go_sem,seval,-List.reduceReplicate,w0] at E
 rotate_left 1
 · refine .q ?_;refine .text ?_;simp (disch:=first|exact za|fail) only [go_sem,seval,-List.reduceReplicate,E]
   refine .q ?_;refine .ifF (by simp (disch:=first|exact za|fail) only [go_sem,seval,-List.reduceReplicate]) ?_
   refine .q ?_;refine .text ?_;simp (disch:=first|exact za|fail) only [go_sem,seval,-List.reduceReplicate,E]
   have hall:cs.take cs.length=cs:=List.take_length
   refine .q ?_;refine .rt Tryd.func46 (by rw [Tryd.results46]) (hx:=by simp (disch:=first|exact za|fail) only [go_sem,seval,-List.reduceReplicate,E,hall];rfl) (hR := ?_);simp (disch:=first|exact za|fail) only [go_sem,seval,-List.reduceReplicate,E,hall]
   exact h
 · have hc:=hl _ (zS hi)
   obtain⟨c,hcc⟩ : ∃ c,c=nth cs i:=⟨_,rfl⟩
   have hs:=znj hi
   rw [←hcc] at hc hs
   have hbi:=hb i (by omega)
   obtain⟨X,hX⟩ : ∃ X,X=yD 2 rows++yh (cs.take i):=⟨_,rfl⟩
   have hXs:X++yD 4 c.length++c=yD 2 rows++yh (cs.take (i+1)):=by rw [hX,←hs];simp
   have h4:(yD 4 c.length).length=4:=zC
   rw [←hX] at hbi
   refine .q ?_;refine .text ?_;simp (disch:=first|exact za|fail) only [go_sem,seval,-List.reduceReplicate,E]
   refine .q ?_;refine .ifT (by simp (disch:=first|exact za|fail) only [go_sem,seval,-List.reduceReplicate]) ?_
   refine .q ?_;refine .text ?_;simp (disch:=first|exact za|fail) only [go_sem,seval,-List.reduceReplicate,E,←hcc,zaR]
   refine .q ?_;refine .text ?_;simp (disch:=first|exact za|fail) only [go_sem,seval,-List.reduceReplicate,E,←hX]
   refine CallK.of (fun R h=>zkT X c.length 4 (by decide) (by omega) (H.n+1) (2+5*i) _ (by simp (disch:=first|exact za|fail) only [go_sem,seval,-List.reduceReplicate]) R h) ?_;simp (disch:=first|exact za|fail) only [go_sem,seval,-List.reduceReplicate,E,h4,hXs]
   refine .q ?_;refine .text ?_;simp (disch:=first|exact za|fail) only [go_sem,seval,-List.reduceReplicate,E]
   have hv5:2+5*i+4+1=2+5*(i+1):=by omega
   first | (refine ihE _ _ ?_ trivial ?_) | (refine .z rfl ?_;refine ihE _ _ ?_ trivial ?_) | (refine .z rfl ?_;refine .z rfl ?_;refine ihE _ _ ?_ trivial ?_) | (refine .z rfl ?_;refine .z rfl ?_;refine .z rfl ?_;refine ihE _ _ ?_ trivial ?_)
   · simp (disch:=first|exact za|fail) only [go_sem,seval,-List.reduceReplicate,E,hXs,hv5]<;>(repeat' (first | rfl | refine And.intro ?_ ?_))
   · first | rfl | (simp (disch:=first|exact za|fail) only [go_sem,seval,-List.reduceReplicate,E,hXs,hv5]<;>(try rfl))
theorem znk (hG0:G 0=some (8,[.agg (pl zy inits)])) (hG1:G 1=some (64,[.agg (pl zy ks)])) (b:By) (hb:b.length≤140737488353000) (H:Hp) (R:AV → Hp → Prop)
 (h:R (.tup [.p (b8 (zgX b).1.1),.p (.sl false 1 (pl b8 (zgX b).1.2.1)),.p (.sl false 1 (pl b8 (zgX b).1.2.2)),.p (bo (zgX b).2)]) H):ACall Tryd.prog G 37 [.p (.sl false 1 (pl b8 b))] H R:=by
 have bad:spl b=none → R (.tup [.p (b8 0#8),.p (.sl false 1 []),.p (.sl false 1 []),.p (bo false)]) H:=fun e=>by rw [zgX,e] at h;exact h
 refine ACall.of_run (raw:=[]) Tryd.func37 rfl Tryd.ntmps37 (by simp) fun hbel => ?_
 refine .q ?_;refine .text ?_;simp (disch:=first|exact za|fail) only [go_sem,seval,-List.reduceReplicate]
 by_cases c1:b.length < 13
 · have d1:decide ((b.length:Int) < 13)=true:=decide_eq_true (by omega)
   refine .q ?_;refine .text ?_;simp (disch:=first|exact za|fail) only [go_sem,seval,-List.reduceReplicate,d1]
   refine .q ?_;refine .ifT (by simp (disch:=first|exact za|fail) only [go_sem,seval,-List.reduceReplicate]) ?_
   refine .q ?_;refine .text ?_;simp (disch:=first|exact za|fail) only [go_sem,seval,-List.reduceReplicate]
   refine .q ?_;refine .rt Tryd.func37 (by rw [Tryd.results37]) (hR := ?_);simp (disch:=first|exact za|fail) only [go_sem,seval,-List.reduceReplicate]
   exact bad (by rw [spl,if_pos c1])
 have d1:decide ((b.length:Int) < 13)=false:=decide_eq_false (by omega)
 have h4:(b.take 4).length=4:=by rw [List.length_take];omega
 refine .q ?_;refine .text ?_;simp (disch:=first|exact za|fail) only [go_sem,seval,-List.reduceReplicate,d1]
 refine .q ?_;refine .ifF (by simp (disch:=first|exact za|fail) only [go_sem,seval,-List.reduceReplicate]) ?_
 refine .skip ?_
 refine .q ?_;refine .text ?_;simp (disch:=first|exact za|fail) only [go_sem,seval,-List.reduceReplicate]
 refine CallK.of (fun R h=>yr (b.take 4) (by omega) _ R h) ?_;simp (disch:=first|exact za|fail) only [go_sem,seval,-List.reduceReplicate]
 obtain⟨n,hn⟩ : ∃ n,n=val (b.take 4):=⟨_,rfl⟩
 rw [←hn]
 by_cases c2:1048576 < n
 · have d2:decide ((1048576:Int) < (n:Int))=true:=decide_eq_true (by omega)
   refine .q ?_;refine .text ?_;simp (disch:=first|exact za|fail) only [go_sem,seval,-List.reduceReplicate,d2]
   refine .q ?_;refine .ifT (by simp (disch:=first|exact za|fail) only [go_sem,seval,-List.reduceReplicate]) ?_
   refine .q ?_;refine .text ?_;simp (disch:=first|exact za|fail) only [go_sem,seval,-List.reduceReplicate]
   refine .q ?_;refine .rt Tryd.func37 (by rw [Tryd.results37]) (hR := ?_);simp (disch:=first|exact za|fail) only [go_sem,seval,-List.reduceReplicate]
   exact bad (by rw [spl,if_neg c1,←hn,if_pos (.inl c2)])
 have d2:decide ((1048576:Int) < (n:Int))=false:=decide_eq_false (by omega)
 by_cases c3:b.length < 13+n
 · have d3:decide ((b.length:Int) < 5+(n:Int)+8)=true:=decide_eq_true (by omega)
   refine .q ?_;refine .text ?_;simp (disch:=first|exact za|fail) only [go_sem,seval,-List.reduceReplicate,d2,d3]
   refine .q ?_;refine .ifT (by simp (disch:=first|exact za|fail) only [go_sem,seval,-List.reduceReplicate]) ?_
   refine .q ?_;refine .text ?_;simp (disch:=first|exact za|fail) only [go_sem,seval,-List.reduceReplicate]
   refine .q ?_;refine .rt Tryd.func37 (by rw [Tryd.results37]) (hR := ?_);simp (disch:=first|exact za|fail) only [go_sem,seval,-List.reduceReplicate]
   exact bad (by rw [spl,if_neg c1,←hn,if_pos (.inr c3)])
 have d3:decide ((b.length:Int) < 5+(n:Int)+8)=false:=decide_eq_false (by omega)
 refine .q ?_;refine .text ?_;simp (disch:=first|exact za|fail) only [go_sem,seval,-List.reduceReplicate,d2,d3]
 refine .q ?_;refine .ifF (by simp (disch:=first|exact za|fail) only [go_sem,seval,-List.reduceReplicate]) ?_
 refine .skip ?_
 have e1:(b.take (5+(n:Int)).toNat).drop 4=(b.drop 4).take (1+n):=by
  rw [show (5+(n:Int)).toNat=5+n by omega,List.drop_take,show 5+n - 4=1+n by omega]
 obtain⟨m,hm⟩ : ∃ m,m=(b.drop 4).take (1+n):=⟨_,rfl⟩
 have hml:m.length≤140737488353000:=by rw [hm,List.length_take,List.length_drop];omega
 rw [←hm] at e1
 refine .q ?_;refine .text ?_;simp (disch:=first|exact za|fail) only [go_sem,seval,-List.reduceReplicate,e1]
 refine CallK.of (fun R h=>zkA hG0 hG1 m hml _ R h) ?_;simp (disch:=first|exact za|fail) only [go_sem,seval,-List.reduceReplicate]
 have hsl:(sha m).length=32:=zd2 _
 obtain⟨d,hd⟩ : ∃ d,d=sha m:=⟨_,rfl⟩
 rw [←hd] at hsl ⊢
 refine .q ?_;refine .frzP 7 (by simp (disch:=first|exact za|fail) only [go_sem,seval,-List.reduceReplicate,hsl];rfl) (by simp (disch:=first|exact za|fail) only [go_sem,seval,-List.reduceReplicate,hsl]<;>rfl) (fun _=>rfl) (by first | exact za | fail) ?_;(try simp (disch:=first|exact za|fail) only [go_sem,seval,-List.reduceReplicate,hsl])
 have i1:(5+(n:Int)).toNat=5+n:=by omega
 have i2:(5+(n:Int)+8).toNat=13+n:=by omega
 have e2:(b.take (13+n)).drop (5+n)=(b.drop (5+n)).take 8:=by rw [List.drop_take,show 13+n - (5+n)=8 by omega]
 refine .q ?_;refine .open [] follows (by kernel_rfl) ?_;simp (disch:=first|exact za|fail) only [go_sem,seval,-List.reduceReplicate,hsl,i1,i2,e2]
 refine CallD.still (fun R h=>zgn _ _ _ R h) ?_;simp (disch:=first|exact za|fail) only [go_sem,seval,-List.reduceReplicate,hsl,i1,i2,e2]
 by_cases c4:d.take 8=(b.drop (5+n)).take 8
 · have d4:decide (d.take 8=(b.drop (5+n)).take 8)=true:=decide_eq_true c4
   have hs:spl b=some (nth b 4,(b.drop 5).take n,b.drop (13+n)):=by
    rw [spl,if_neg c1,←hn,if_neg (by omega),←hm,←hd,if_pos c4];rfl
   rw [zgX,hs] at h
   dsimp only at h
   have e3:(b.take (5+n)).drop 5=(b.drop 5).take n:=by rw [List.drop_take,show 5+n - 5=n by omega]
   simp (disch:=first|exact za|fail) only [go_sem,seval,-List.reduceReplicate,d4]
   refine .q ?_;refine .ifF (by simp (disch:=first|exact za|fail) only [go_sem,seval,-List.reduceReplicate]) ?_
   refine .skip ?_
   refine .q ?_;refine .open [] follows (by kernel_rfl) ?_;simp (disch:=first|exact za|fail) only [go_sem,seval,-List.reduceReplicate,hsl,i1,i2,e3]
   refine .q ?_;refine .rt Tryd.func37 (by rw [Tryd.results37]) (hR := ?_);simp (disch:=first|exact za|fail) only [go_sem,seval,-List.reduceReplicate]
   exact h
 · have d4:decide (d.take 8=(b.drop (5+n)).take 8)=false:=decide_eq_false c4
   simp (disch:=first|exact za|fail) only [go_sem,seval,-List.reduceReplicate,d4]
   refine .q ?_;refine .ifT (by simp (disch:=first|exact za|fail) only [go_sem,seval,-List.reduceReplicate]) ?_
   refine .q ?_;refine .text ?_;simp (disch:=first|exact za|fail) only [go_sem,seval,-List.reduceReplicate]
   refine .q ?_;refine .rt Tryd.func37 (by rw [Tryd.results37]) (hR := ?_);simp (disch:=first|exact za|fail) only [go_sem,seval,-List.reduceReplicate]
   exact bad (by rw [spl,if_neg c1,←hn,if_neg (by omega),←hm,←hd,if_neg c4])
end walks
end Go.Proofs.YtdpfkanfahchjaaDoor

/-
  The log of readings: the payload of a segment read,by the program;the program's write.
-/
namespace Go.Proofs.YtdpfkanfahchjaaDoor
open Go Go.AL

def zed (b:By):Prop:=b.length < 4 ∨ b.length < 4+val (b.take 4)
instance {b:By}:Decidable (zed b):=by unfold zed;infer_instance
theorem zbn : ∀ {i:Nat} {b:By},z6 (i+1) b=(match z6 i b with | none=>none | some (cs,r)=>if zed r then none else some (cs++[(r.drop 4).take (val (r.take 4))],r.drop (4+val (r.take 4))))
 | 0,b=>by
  show (if _ then _ else _)=_
  unfold zed
  simp only [z6,List.nil_append]
 | i+1,b=>by
  have ih:=zbn (i:=i) (b:=b.drop (4+val (b.take 4)))
  conv=>lhs;unfold z6
  conv=>rhs;unfold z6
  rw [ih]
  by_cases h:b.length < 4 ∨ b.length < 4+val (b.take 4)
  · rw [if_pos h,if_pos h]
  · rw [if_neg h,if_neg h]
    cases h2:z6 i (b.drop (4+val (b.take 4))) with
    | none=>rfl
    | some q =>
     obtain⟨cs,r⟩:=q
     dsimp only
     by_cases h3:zed r
     · rw [if_pos h3,if_pos h3]
     · rw [if_neg h3,if_neg h3];rfl
theorem zgr {i j:Nat} {b:By} (hij:i≤j) (h:z6 i b=none):z6 j b=none:=by
  induction j with
  | zero => have : i = 0 := by omega
            subst this;exact h
  | succ j ih =>
    by_cases e:i=j+1
    · subst e;exact h
    · rw [zbn,ih (by omega)]
def csI (b:By) (i:Nat):List By:=((z6 i b).getD ([],[])).1
def rI (b:By) (i:Nat):By:=((z6 i b).getD ([],[])).2
theorem zch {b:By} {i:Nat} (h:(z6 i b).isSome=true):z6 i b=some (csI b i,rI b i):=by
 unfold csI rI
 cases h2:z6 i b with
 | none=>rw [h2] at h;cases h
 | some q=>rfl
theorem zbo : ∀ {i:Nat} {b:By} {cs:List By} {r:By},z6 i b=some (cs,r) → r.length≤b.length ∧ ∀ c∈cs,c.length≤b.length
 | 0,b,cs,r,h=>by cases h;exact⟨Nat.le_refl _,by simp⟩
 | i+1,b,cs,r,h=>by
  rw [zbn] at h
  cases h2:z6 i b with
  | none=>rw [h2] at h;cases h
  | some q =>
   obtain⟨cs',r'⟩:=q
   rw [h2] at h
   dsimp only at h
   split at h
   · cases h
   · cases h
     obtain⟨q1,q2⟩:=zbo h2
     refine⟨by rw [List.length_drop];omega,fun c hc => ?_⟩
     rcases List.mem_append.1 hc with hc | hc
     · exact q2 c hc
     · rw [List.mem_singleton] at hc
       subst hc
       rw [List.length_take,List.length_drop];omega
def zco (b:By):(Nat × List By) × Bool :=
 if b.length < 2 then ((0,[]),false) else
 match z6 4 (b.drop 2) with
 | some (cs,r)=>((val (b.take 2),cs),r.isEmpty)
 | none=>((0,[]),false)
theorem znl {b:By} {q:Nat × List By} (h:zcP b=some q):zco b=(q,true):=by
 unfold zcP at h
 unfold zco
 split at h
 · cases h
 · rename_i c
   rw [if_neg c]
   cases h2:z6 4 (b.drop 2) with
   | none=>rw [h2] at h;cases h
   | some p =>
    obtain⟨cs,r⟩:=p
    rw [h2] at h
    cases r with
    | nil=>cases h;rfl
    | cons x r=>cases h
theorem znm {b:By} (h:zcP b=none):(zco b).2=false:=by
 unfold zcP at h
 unfold zco
 split at h
 · rename_i c;rw [if_pos c]
 · rename_i c
   rw [if_neg c]
   cases h2:z6 4 (b.drop 2) with
   | none=>rfl
   | some p =>
    obtain⟨cs,r⟩:=p
    rw [h2] at h
    cases r with
    | nil=>cases h
    | cons x r=>rfl
theorem zqm {b:By} : ∀ c∈(zco b).1.2,c.length≤b.length:=by
 unfold zco
 split
 · simp
 · cases h2:z6 4 (b.drop 2) with
   | none=>simp
   | some p =>
    obtain⟨cs,r⟩:=p
    intro c hc
    have:=(zbo h2).2 c hc
    rw [List.length_drop] at this
    omega
section walks
variable {G:Globs}
set_option maxHeartbeats 4000000 in
set_option maxRecDepth 20000 in
theorem zgZ (b:By) (hb:b.length≤1048576) (H:Hp) (R:AV → Hp → Prop) (h:R (.tup [.p (seg (zco b).1.1 (zco b).1.2),.p (bo (zco b).2)]) H):ACall Tryd.prog G 62 [.p (.sl false 1 (pl b8 b))] H R:=by
  have bad:z6 4 (b.drop 2)=none ∨ b.length < 2 → R (.tup [.p (seg 0 []),.p (bo false)]) H:=fun e=>by
    rw [zco] at h
    rcases e with e | e
    · rw [e] at h
      split at h<;>exact h
    · rw [if_pos e] at h;exact h
  refine ACall.of_run (raw:=[]) Tryd.func62 rfl Tryd.ntmps62 (by simp) fun hbel => ?_
  refine .q ?_;refine .text ?_;simp (disch:=first|exact za|fail) only [go_sem,seval,-List.reduceReplicate]
  by_cases c1:b.length < 2
  · have d1:decide ((b.length:Int) < 2)=true:=decide_eq_true (by omega)
    refine .q ?_;refine .text ?_;simp (disch:=first|exact za|fail) only [go_sem,seval,-List.reduceReplicate,d1]
    refine .q ?_;refine .ifT (by simp (disch:=first|exact za|fail) only [go_sem,seval,-List.reduceReplicate]) ?_
    refine .q ?_;refine .text ?_;simp (disch:=first|exact za|fail) only [go_sem,seval,-List.reduceReplicate]
    refine .q ?_;refine .rt Tryd.func62 (by rw [Tryd.results62]) (hR := ?_);simp (disch:=first|exact za|fail) only [go_sem,seval,-List.reduceReplicate]
    exact bad (.inr c1)
  have d1:decide ((b.length:Int) < 2)=false:=decide_eq_false (by omega)
  rw [zco,if_neg c1] at h
  have h2:(b.take 2).length=2:=by rw [List.length_take];omega
  refine .q ?_;refine .text ?_;simp (disch:=first|exact za|fail) only [go_sem,seval,-List.reduceReplicate,d1]
  refine .q ?_;refine .ifF (by simp (disch:=first|exact za|fail) only [go_sem,seval,-List.reduceReplicate]) ?_
  refine .skip ?_
  refine .q ?_;refine .text ?_;simp (disch:=first|exact za|fail) only [go_sem,seval,-List.reduceReplicate]
  refine CallK.of (fun R h=>yr (b.take 2) (by omega) _ R h) ?_;simp (disch:=first|exact za|fail) only [go_sem,seval,-List.reduceReplicate]
  obtain⟨rows,hrows⟩ : ∃ rows,rows=val (b.take 2):=⟨_,rfl⟩
  rw [←hrows] at h ⊢
  refine .q ?_;refine .text ?_;simp (disch:=first|exact za|fail) only [go_sem,seval,-List.reduceReplicate]
  obtain⟨B,hB⟩ : ∃ B,B=b.drop 2:=⟨_,rfl⟩
  have hBl:B.length≤1048576:=by rw [hB,List.length_drop];omega
  rw [←hB] at h bad ⊢
  have hr0:rI B 0=B:=rfl
  have hc0:csI B 0=[]:=rfl
  refine .q ?_;refine .text ?_;simp (disch:=first|exact za|fail) only [go_sem,seval,-List.reduceReplicate]
  refine CallK.of (fun R h=>za1 _ R h) ?_;simp (disch:=first|exact za|fail) only [go_sem,seval,-List.reduceReplicate]
  refine .q ?_;refine .ownC (H.n+1) 1 (by simp (disch:=first|exact za|fail) only [go_sem,seval,-List.reduceReplicate];rfl) (by rfl) ?_;simp (disch:=first|exact za|fail) only [go_sem,seval,-List.reduceReplicate,List.set_cons_zero,List.set_cons_succ]
  refine .q ?_;refine .loopE [2,4] (fun i=>[(0,.p (.sl false 1 (pl b8 (rI B i)))),(17,.p (i64 i))]) (fun i=>[(H.n+1,.cells [.p (i64 rows),.sl (H.n+3) i 1 (pl (sle 1 b8) (csI B i))]),(H.n+3,.tail i)]) (fun i=>(z6 i B).isSome=true) (0) (4) (by omega) ?_ (by first | rfl | (simp (disch:=first|exact za|fail) only [go_sem,seval,-List.reduceReplicate,hr0,hc0]<;>rfl)) ?_ ?_ ?_
  · simp (disch:=first|exact za|fail) only [go_sem,seval,-List.reduceReplicate,hr0,hc0]<;>(repeat' (first | rfl | refine And.intro ?_ ?_))
  rotate_left 1
  intro env E hQ;simp (disch:=first|exact za|fail) only [go_sem,seval,-List.reduceReplicate,hr0,hc0] at E
  rotate_left 1
  intro i env hi0 hi E hQ ihE;simp (disch:=first|exact za|fail) only [go_sem,seval,-List.reduceReplicate,hr0,hc0] at E
  rotate_left 1
  · rfl
  · rw [zch hQ] at h
    dsimp only at h
    have hie:(rI B 4).isEmpty=((((rI B 4).length:Nat):Int) == 0):=by
      cases rI B 4 with
      | nil=>rfl
      | cons x l=>simp;omega
    rw [hie] at h
    refine .q ?_;refine .text ?_;simp (disch:=first|exact za|fail) only [go_sem,seval,-List.reduceReplicate,E]
    refine .q ?_;refine .ifF (by simp (disch:=first|exact za|fail) only [go_sem,seval,-List.reduceReplicate]) ?_
    refine .q ?_;refine .text ?_;simp (disch:=first|exact za|fail) only [go_sem,seval,-List.reduceReplicate,E]
    refine .q ?_;refine .rt Tryd.func62 (by rw [Tryd.results62]) (hx:=by simp (disch:=first|exact za|fail) only [go_sem,seval,-List.reduceReplicate,E];rfl) (hR := ?_);simp (disch:=first|exact za|fail) only [go_sem,seval,-List.reduceReplicate,E]
    exact h
  · have hps:=zch hQ
    have hsu:=zbn (i:=i) (b:=B)
    rw [hps] at hsu
    dsimp only at hsu
    obtain⟨hrl,hcl⟩:=zbo hps
    have hcn:=zc3 hps
    obtain⟨r,hr⟩ : ∃ r,r=rI B i:=⟨_,rfl⟩
    rw [←hr] at hsu hrl
    have fail:zed r → R (.tup [.p (seg 0 []),.p (bo false)]) H:=fun e=>bad (.inl (zgr (i:=i+1) (by omega) (by rw [hsu,if_pos e])))
    refine .q ?_;refine .text ?_;simp (disch:=first|exact za|fail) only [go_sem,seval,-List.reduceReplicate,E]
    refine .q ?_;refine .ifT (by simp (disch:=first|exact za|fail) only [go_sem,seval,-List.reduceReplicate]) ?_
    by_cases c2:r.length < 4
    · have d2:decide ((r.length:Int) < 4)=true:=decide_eq_true (by omega)
      refine .q ?_;refine .text ?_;simp (disch:=first|exact za|fail) only [go_sem,seval,-List.reduceReplicate,E,←hr,d2]
      refine .q ?_;refine .ifT (by simp (disch:=first|exact za|fail) only [go_sem,seval,-List.reduceReplicate]) ?_
      refine .q ?_;refine .text ?_;simp (disch:=first|exact za|fail) only [go_sem,seval,-List.reduceReplicate,E]
      refine .q ?_;refine .rt Tryd.func62 (by rw [Tryd.results62]) (hx:=by simp (disch:=first|exact za|fail) only [go_sem,seval,-List.reduceReplicate,E];rfl) (hR := ?_);simp (disch:=first|exact za|fail) only [go_sem,seval,-List.reduceReplicate,E]
      exact fail (.inl c2)
    have d2:decide ((r.length:Int) < 4)=false:=decide_eq_false (by omega)
    have h4:(r.take 4).length=4:=by rw [List.length_take];omega
    refine .q ?_;refine .text ?_;simp (disch:=first|exact za|fail) only [go_sem,seval,-List.reduceReplicate,E,←hr,d2]
    refine CallK.of (fun R h=>yr (r.take 4) (by omega) _ R h) ?_;simp (disch:=first|exact za|fail) only [go_sem,seval,-List.reduceReplicate,E,←hr,d2]
    obtain⟨n,hn⟩ : ∃ n,n=val (r.take 4):=⟨_,rfl⟩
    rw [←hn] at hsu ⊢
    by_cases c3:r.length < 4+n
    · have d3:decide ((r.length:Int) - 4 < (n:Int))=true:=decide_eq_true (by omega)
      simp (disch:=first|exact za|fail) only [go_sem,seval,-List.reduceReplicate,E,←hr,d3]
      refine .q ?_;refine .ifT (by simp (disch:=first|exact za|fail) only [go_sem,seval,-List.reduceReplicate]) ?_
      refine .q ?_;refine .text ?_;simp (disch:=first|exact za|fail) only [go_sem,seval,-List.reduceReplicate,E]
      refine .q ?_;refine .rt Tryd.func62 (by rw [Tryd.results62]) (hx:=by simp (disch:=first|exact za|fail) only [go_sem,seval,-List.reduceReplicate,E];rfl) (hR := ?_);simp (disch:=first|exact za|fail) only [go_sem,seval,-List.reduceReplicate,E]
      exact fail (.inr (by rw [←hn];exact c3))
    have d3:decide ((r.length:Int) - 4 < (n:Int))=false:=decide_eq_false (by omega)
    rw [if_neg (by unfold zed;rw [←hn];omega)] at hsu
    simp (disch:=first|exact za|fail) only [go_sem,seval,-List.reduceReplicate,E,←hr,d3]
    refine .q ?_;refine .ifF (by simp (disch:=first|exact za|fail) only [go_sem,seval,-List.reduceReplicate]) ?_
    refine .skip ?_
    refine .q ?_;refine .text ?_;simp (disch:=first|exact za|fail) only [go_sem,seval,-List.reduceReplicate,E,←hr]
    refine CallK.of (fun R h=>yr (r.take 4) (by omega) _ R h) ?_;simp (disch:=first|exact za|fail) only [go_sem,seval,-List.reduceReplicate,E,←hr]
    rw [←hn]
    obtain⟨c,hc⟩ : ∃ c,c=(r.drop 4).take n:=⟨_,rfl⟩
    have e1:(r.take (4+(n:Int)).toNat).drop 4=c:=by rw [hc,show (4+(n:Int)).toNat=4+n by omega,List.drop_take,show 4+n - 4=n by omega]
    have i1:(4+(n:Int)).toNat=4+n:=by omega
    have q1 : csI B i ++ [c] = csI B (i + 1) := by rw [hc]; conv => rhs; rw [csI, hsu]
                                                   rfl
    have q2 : r.drop (4 + n) = rI B (i + 1) := by conv => rhs; rw [rI, hsu]
                                                  rfl
    have hq2:(z6 (i+1) B).isSome=true:=by rw [hsu];rfl
    have hkl:(csI B i).length≤100:=by rw [hcn];omega
    have hone:[PV.sl false 1 (pl b8 c)]=pl (sle 1 b8) [c]:=rfl
    have hwk:(PV.sl false 1 (pl b8 c)).weak=PV.sl false 1 (pl b8 c):=rfl
    have hall:((pl (sle 1 b8) [c]).all fun x=>x.cells.length == 1)=true:=rfl
    have hw2:(pl (sle 1 b8) [c]).map PV.weak=pl (sle 1 b8) [c]:=rfl
    have e1':(r.take (4+n)).drop 4=c:=by rw [←i1];exact e1
    (refine .q ?_)
    refine .openInv (fun L env' H'=>kF env' [(4,.ptr (H.n+1) 0),(5,.p (i64 (4+(n:Int)))),(17,.p (i64 i)),(2,.ptr H.n 0)]∧kI L env' [(0,36,.ptr (H.n+1) 1),(1,37,.sl (H.n+3) i 1 (pl (sle 1 b8) (csI B i))),(2,38,.p (.sl false 1 (pl b8 r))),(3,39,.p (i64 (4+(n:Int)))),(4,40,.p (.sl false 1 (pl b8 c))),(5,41,.p (.sl true 1 (pl (sle 1 b8) [c]))),(6,42,.sl (H.n+3) (i+1) 1 (pl (sle 1 b8) (csI B (i+1)))),(7,43,.p (.sl false 1 (pl b8 r))),(8,44,.p (i64 (4+(n:Int)))),(9,45,.p (.sl false 1 (pl b8 (rI B (i+1))))),(10,46,.ptr (H.n+1) 1),(12,0,.p (.sl false 1 (pl b8 (rI B (i+1)))))]∧(L 12=false → env' 0 = .p (.sl false 1 (pl b8 r)))∧(L 6=true → allT L [1,5])∧(L 11=true → allT L [0,1,2,3,4,5,6,10])∧(L 12=true → allT L [0,1,2,3,4,5,6,7,8,9,10,11])∧H'=((((H.new (.cells [.p (i64 0),.p (.sl true 1 [])])).new (.cells [.p (i64 rows),if L 11 then .sl (H.n+3) (i+1) 1 (pl (sle 1 b8) (csI B (i+1))) else .sl (H.n+3) i 1 (pl (sle 1 b8) (csI B i))])).new (.cells ztD)).new (.tail (if L 6 then i+1 else i)))) follows (by kernel_rfl) ?_ ?_ ?_
    · exact⟨(by simp (disch:=first|exact za|fail) only [go_sem,seval,-List.reduceReplicate,kFi,kFn,and_self,E,←hr,i1,e1',hone,hwk,hall,hw2,hkl,q1,q2]),(fun _ _ h=>by cases h),(fun _=>by simp (disch:=first|exact za|fail) only [go_sem,seval,-List.reduceReplicate,E,←hr,i1,e1',hone,hwk,hall,hw2,hkl,q1,q2]),(fun h=>by cases h),(fun h=>by cases h),(fun h=>by cases h),(by first | rfl | (simp only [Bool.false_eq_true,if_false];first | rfl | (simp (disch:=first|exact za|fail) only [go_sem,seval,-List.reduceReplicate,E,←hr,i1,e1',hone,hwk,hall,hw2,hkl,q1,q2]<;>rfl)))⟩
    · intro i o L env' H' ho hL hall hI
      obtain⟨KF,KG,f0,m6,m11,m12,rfl⟩:=hI
      rcases i with _ | _ | _ | _ | _ | _ | _ | _ | _ | _ | _ | _ | _ | i
      · cases ho;have f1:=kFg KF 0 rfl;refine zg (.ptr (H.n+1) 1) rfl rfl (by simp (disch:=first|exact za|fail) only [go_sem,seval,-List.reduceReplicate,f1,←hr,i1,e1',hone,hwk,hall,hw2,hkl,q1,q2]<;>rfl) rfl ?_;exact⟨yp KF,yq KG,(kq f0),ka m6,ka m11,ka m12,(by rw [zb (by decide),zb (by decide)])⟩
      · cases ho;have d0:=z5 KG 0 rfl (kL hall 0 rfl rfl);have n6:=nfT m6 hL;have n11:=nfT m11 hL;have n12:=nfT m12 hL;refine zg (.sl (H.n+3) i 1 (pl (sle 1 b8) (csI B i))) rfl rfl (by simp (disch:=first|exact za|fail) only [go_sem,seval,-List.reduceReplicate,reduceIte,Bool.false_eq_true,if_false,if_true,d0,n6,n11,n12,hL,←hr,i1,e1',hone,hwk,hall,hw2,hkl,q1,q2]<;>rfl) rfl ?_;exact⟨yp KF,yq KG,(kq f0),ka m6,ka m11,ka m12,(by rw [zb (by decide),zb (by decide)])⟩
      · cases ho;have n12:=nfT m12 hL;refine zg (.p (.sl false 1 (pl b8 r))) rfl rfl (by simp (disch:=first|exact za|fail) only [go_sem,seval,-List.reduceReplicate,f0 n12,←hr,i1,e1',hone,hwk,hall,hw2,hkl,q1,q2]<;>rfl) rfl ?_;exact⟨yp KF,yq KG,(kq f0),ka m6,ka m11,ka m12,(by rw [zb (by decide),zb (by decide)])⟩
      · cases ho;have f2:=kFg KF 1 rfl;refine zg (.p (i64 (4+(n:Int)))) rfl rfl (by simp (disch:=first|exact za|fail) only [go_sem,seval,-List.reduceReplicate,f2,←hr,i1,e1',hone,hwk,hall,hw2,hkl,q1,q2]<;>rfl) rfl ?_;exact⟨yp KF,yq KG,(kq f0),ka m6,ka m11,ka m12,(by rw [zb (by decide),zb (by decide)])⟩
      · cases ho;have d2:=z5 KG 2 rfl (kL hall 0 rfl rfl);have d3:=z5 KG 3 rfl (kL hall 1 rfl rfl);have n11:=nfT m11 hL;have n12:=nfT m12 hL;refine zg (.p (.sl false 1 (pl b8 c))) rfl rfl (by simp (disch:=first|exact za|fail) only [go_sem,seval,-List.reduceReplicate,reduceIte,Bool.false_eq_true,if_false,if_true,d2,d3,n11,n12,hL,←hr,i1,e1',hone,hwk,hall,hw2,hkl,q1,q2]<;>rfl) rfl ?_;exact⟨yp KF,yq KG,(kq f0),ka m6,ka m11,ka m12,(by rw [zb (by decide),zb (by decide)])⟩
      · cases ho;have d4:=z5 KG 4 rfl (kL hall 0 rfl rfl);have n6:=nfT m6 hL;have n11:=nfT m11 hL;have n12:=nfT m12 hL;refine zg (.p (.sl true 1 (pl (sle 1 b8) [c]))) rfl rfl (by simp (disch:=first|exact za|fail) only [go_sem,seval,-List.reduceReplicate,reduceIte,Bool.false_eq_true,if_false,if_true,d4,n6,n11,n12,hL,←hr,i1,e1',hone,hwk,hall,hw2,hkl,q1,q2]<;>rfl) rfl ?_;exact⟨yp KF,yq KG,(kq f0),ka m6,ka m11,ka m12,(by rw [zb (by decide),zb (by decide)])⟩
      · cases ho;have h1:=kL hall 0 rfl rfl;have d1:=z5 KG 1 rfl h1;have h5:=kL hall 1 rfl rfl;have d5:=z5 KG 5 rfl h5;have n11:=nfT m11 hL;have n12:=nfT m12 hL;(try simp only [n11,hL,if_true,if_false,Bool.false_eq_true]);refine zgj (.sl (H.n+3) (i+1) 1 (pl (sle 1 b8) (csI B (i+1)))) rfl rfl (by simp (disch:=first|exact za|fail) only [go_sem,seval,-List.reduceReplicate,reduceIte,Bool.false_eq_true,if_false,if_true,d1,d5,n11,n12,hL,←hr,i1,e1',hone,hwk,hall,hw2,hkl,q1,q2]<;>rfl) rfl ?_;exact⟨yp KF,yq KG,(kq f0),(fun _=>kt (zi h1 (zi h5 yB))),ka m11,ka m12,(by (have e6:more L 6 6=true:=yX);(have e11:more L 6 11=L 11:=zb (by decide));(try simp only [e6,e11,n11,hL]);first | done | rfl | (simp only [e6,e11,n11,hL,if_true,if_false,Bool.false_eq_true];first | done | rfl | (simp (disch:=first|exact za|fail) only [go_sem,seval,-List.reduceReplicate,e6,e11,n11,hL,←hr,i1,e1',hone,hwk,hall,hw2,hkl,q1,q2]<;>rfl)))⟩
      · cases ho;have n12:=nfT m12 hL;refine zg (.p (.sl false 1 (pl b8 r))) rfl rfl (by simp (disch:=first|exact za|fail) only [go_sem,seval,-List.reduceReplicate,f0 n12,←hr,i1,e1',hone,hwk,hall,hw2,hkl,q1,q2]<;>rfl) rfl ?_;exact⟨yp KF,yq KG,(kq f0),ka m6,ka m11,ka m12,(by rw [zb (by decide),zb (by decide)])⟩
      · cases ho;have f2:=kFg KF 1 rfl;refine zg (.p (i64 (4+(n:Int)))) rfl rfl (by simp (disch:=first|exact za|fail) only [go_sem,seval,-List.reduceReplicate,f2,←hr,i1,e1',hone,hwk,hall,hw2,hkl,q1,q2]<;>rfl) rfl ?_;exact⟨yp KF,yq KG,(kq f0),ka m6,ka m11,ka m12,(by rw [zb (by decide),zb (by decide)])⟩
      · cases ho;have d7:=z5 KG 7 rfl (kL hall 0 rfl rfl);have d8:=z5 KG 8 rfl (kL hall 1 rfl rfl);refine zg (.p (.sl false 1 (pl b8 (rI B (i+1))))) rfl rfl (by simp (disch:=first|exact za|fail) only [go_sem,seval,-List.reduceReplicate,d7,d8,←hr,i1,e1',hone,hwk,hall,hw2,hkl,q1,q2]<;>rfl) rfl ?_;exact⟨yp KF,yq KG,(kq f0),ka m6,ka m11,ka m12,(by rw [zb (by decide),zb (by decide)])⟩
      · cases ho;have f1:=kFg KF 0 rfl;refine zg (.ptr (H.n+1) 1) rfl rfl (by simp (disch:=first|exact za|fail) only [go_sem,seval,-List.reduceReplicate,f1,←hr,i1,e1',hone,hwk,hall,hw2,hkl,q1,q2]<;>rfl) rfl ?_;exact⟨yp KF,yq KG,(kq f0),ka m6,ka m11,ka m12,(by rw [zb (by decide),zb (by decide)])⟩
      · cases ho;have h10:=kL hall 0 rfl rfl;have d10:=z5 KG 10 rfl h10;have h6:=kL hall 1 rfl rfl;have d6:=z5 KG 6 rfl h6;have h0:=kL hall 3 rfl rfl;have h1:=kL hall 4 rfl rfl;have h2:=kL hall 5 rfl rfl;have h3:=kL hall 6 rfl rfl;have h4:=kL hall 7 rfl rfl;have h5:=kL hall 8 rfl rfl;have n12:=nfT m12 hL;refine zbl rfl rfl (by simp (disch:=first|exact za|fail) only [go_sem,seval,-List.reduceReplicate,reduceIte,Bool.false_eq_true,if_false,if_true,d6,d10,h6,n12,hL,←hr,i1,e1',hone,hwk,hall,hw2,hkl,q1,q2]<;>rfl) rfl ?_;exact⟨KF,kIs KG,(kq0 f0),ka m6,(fun _=>kt (zi h0 (zi h1 (zi h2 (zi h3 (zi h4 (zi h5 (zi h6 (zi h10 yB))))))))),ka m12,(by (have e6:more L 11 6=L 6:=zb (by decide));(have e11:more L 11 11=true:=yX);(try simp only [e6,e11,h6,hL]);first | done | rfl | (simp only [e6,e11,h6,hL,if_true,if_false,Bool.false_eq_true];first | done | rfl | (simp (disch:=first|exact za|fail) only [go_sem,seval,-List.reduceReplicate,e6,e11,h6,hL,←hr,i1,e1',hone,hwk,hall,hw2,hkl,q1,q2]<;>rfl)))⟩
      · cases ho;have h9:=kL hall 0 rfl rfl;have d9:=z5 KG 9 rfl h9;have h11:=kL hall 1 rfl rfl;have h0:=kL hall 2 rfl rfl;have h1:=kL hall 3 rfl rfl;have h2:=kL hall 4 rfl rfl;have h3:=kL hall 5 rfl rfl;have h4:=kL hall 6 rfl rfl;have h5:=kL hall 7 rfl rfl;have h6:=kL hall 8 rfl rfl;have h7:=kL hall 9 rfl rfl;have h8:=kL hall 10 rfl rfl;have h10:=kL hall 12 rfl rfl;refine zg (.p (.sl false 1 (pl b8 (rI B (i+1))))) rfl rfl (by simp (disch:=first|exact za|fail) only [go_sem,seval,-List.reduceReplicate,d9,←hr,i1,e1',hone,hwk,hall,hw2,hkl,q1,q2]<;>rfl) rfl ?_;exact⟨yp KF,yq KG,kx,ka m6,ka m11,(fun _=>kt (zi h0 (zi h1 (zi h2 (zi h3 (zi h4 (zi h5 (zi h6 (zi h7 (zi h8 (zi h9 (zi h10 (zi h11 yB))))))))))))),(by rw [zb (by decide),zb (by decide)])⟩
      · simp at ho
    · intro L env' H' hall hI
      obtain⟨KF,KG,f0,_,_,_,rfl⟩:=hI
      have l6:=hall 6 (by decide)
      have l11:=hall 11 (by decide)
      have f1:=kFg KF 0 rfl
      have f2:=kFg KF 1 rfl
      have f3:=kFg KF 2 rfl
      have f4:=kFg KF 3 rfl
      have g12:=z5 KG 11 rfl (hall 12 (by decide))
      simp only [l6,l11,if_true]
      clear hall
      refine .q ?_;refine .text ?_;simp (disch:=first|exact za|fail) only [go_sem,seval,-List.reduceReplicate,f1,f2,f3,f4,E]
      first | (refine ihE _ _ ?_ hq2 ?_) | (refine .z rfl ?_;refine ihE _ _ ?_ hq2 ?_) | (refine .z rfl ?_;refine .z rfl ?_;refine ihE _ _ ?_ hq2 ?_) | (refine .z rfl ?_;refine .z rfl ?_;refine .z rfl ?_;refine ihE _ _ ?_ hq2 ?_)
      · simp (disch:=first|exact za|fail) only [go_sem,seval,-List.reduceReplicate,f1,f2,f3,f4,E,g12]<;>(repeat' (first | rfl | refine And.intro ?_ ?_))
      · first | rfl | (simp (disch:=first|exact za|fail) only [go_sem,seval,-List.reduceReplicate,f1,f2,f3,f4,E,g12]<;>(try rfl))
theorem zee (d r:By) (s:Int) (a:Nat) (ha:a≤d.length) (hr:0 < r.length) (hd:d.length+r.length≤140737488355000) (H:Hp) (R:AV → Hp → Prop) (h:R (.p (sto (d.take a++r) (min s a))) H):ACall Tryd.prog G 44 [.p (sto d s),.p (i64 a),.p (.sl false 1 (pl b8 r))] H R:=by
 have hl:(d.take a).length=a:=by rw [List.length_take];omega
 have ht:tot [d.take a,r] [d.take a,r].length=a+r.length:=by show 0+(d.take a).length+r.length=_;rw [hl];omega
 have hc:cat [d.take a,r] 2=d.take a++r:=by show []++d.take a++r=_;rfl
 have hb : ∀ x y:By,[PV.sl false 1 (pl b8 x),.sl false 1 (pl b8 y)]=pl bs [x,y]:=fun _ _=>rfl
 refine ACall.of_run (raw:=[]) Tryd.func44 rfl Tryd.ntmps44 (by simp) fun hbel => ?_
 refine .q ?_;refine .text ?_;simp (disch:=first|exact za|fail) only [go_sem,seval,-List.reduceReplicate]
 have hba : ∀ l:List By,((pl bs l).all fun x=>x.cells.length == 1)=true:=fun l=>by rw [List.all_eq_true];intro y hy;simp only [pl,List.mem_map] at hy;obtain⟨z,_,rfl⟩:=hy;rfl
 have hbw : ∀ l:List By,(pl bs l).map PV.weak=pl bs l:=fun l=>zcY fun _=>rfl
 refine .q ?_;refine .open [12] follows (by kernel_rfl) ?_;simp (disch:=first|exact za|fail) only [go_sem,seval,-List.reduceReplicate,hb,hba,hbw]
 refine CallD.still (fun R h=>zkD [d.take a,r] (by simp) (by rw [ht];omega) (by rw [ht];omega) _ R h) ?_;simp (disch:=first|exact za|fail) only [go_sem,seval,-List.reduceReplicate,hb,hba,hbw,hc,ziF]
 refine .q ?_;refine .rt Tryd.func44 (by rw [Tryd.results44]) (hx:=by simp (disch:=first|exact za|fail) only [go_sem,seval,-List.reduceReplicate,hc,ziF];rfl) (hR := ?_);simp (disch:=first|exact za|fail) only [go_sem,seval,-List.reduceReplicate,hc,ziF]
 exact h
end walks
end Go.Proofs.YtdpfkanfahchjaaDoor

/-
  The log of readings: payloads applied to a stream,by the program.
-/
namespace Go.Proofs.YtdpfkanfahchjaaDoor
open Go Go.AL

theorem zvj {l m:List Rdg}:rcl l++(flat (pl zv m)).map AV.p=rcl (l++m):=by
 rw [←zgq];simp [rcl]
theorem zqn {g:List Bool} {n:Nat}:cl bo g++(flat (pl bo (List.replicate n false))).map AV.p=cl bo (g++List.replicate n false):=by
 rw [flat_bo',zf1];simp [cl]
theorem zk6 {n:Nat} {c:Nat → By}:(zbI n c).length=n:=by simp [zbI]
theorem zgs {l:List Rdg} {g:List Bool} {p:By} {rows:Nat} {cs:List By} (h:zcP p=some (rows,cs)):zV ⟨l,g⟩ 1#8 p=if 0 < rows∧(yC rows cs).2=0∧l.length+rows≤65536 then some ⟨l++(yC rows cs).1,g++List.replicate rows false⟩ else none:=by
 have h4:cs.length=4:=by
  unfold zcP at h
  split at h
  · cases h
  · split at h
    · rename_i h2;cases h;exact zc3 h2
    · cases h
 have hsg:zgV (rows:Int) cs ↔ rows≤4096∧zkH rows (fun k=>cs[k]?.getD []):=by
  unfold zgV
  rw [Int.toNat_natCast]
  constructor
  · rintro ⟨_,a,_,b⟩;exact⟨by omega,b⟩
  · rintro ⟨a,b⟩;exact⟨by omega,by omega,h4,b⟩
 unfold zV
 rw [if_pos rfl,h]
 dsimp only
 unfold yC zwm
 by_cases hs:zgV (rows:Int) cs
 · rw [if_pos hs,Int.toNat_natCast]
   have:=hsg.1 hs
   by_cases c:0 < rows∧l.length+rows≤65536
   · rw [if_pos ⟨c.1,this.1,this.2,c.2⟩,if_pos ⟨c.1,rfl,c.2⟩];rfl
   · rw [if_neg fun e=>c ⟨e.1,e.2.2.2⟩,if_neg fun e=>c ⟨e.1,e.2.2⟩]
 · rw [if_neg hs,if_neg fun e=>hs (hsg.2 ⟨e.2.1,e.2.2.1⟩),if_neg fun e=>by cases e.2.1]
theorem zk7 {rows:Nat} {cs:List By} (h:(yC rows cs).2=0):(yC rows cs).1.length=rows:=by
 unfold yC at h ⊢
 split
 · rw [Int.toNat_natCast,zk6]
 · rename_i q;rw [if_neg q] at h;cases h
theorem zoo {rows:Nat} {cs:List By} (h:(yC rows cs).2=0):rows≤4096:=by
 unfold yC at h
 split at h
 · rename_i q;have:=q.2.1;omega
 · cases h
section walks
variable {G:Globs}
set_option maxHeartbeats 4000000 in
set_option maxRecDepth 20000 in
theorem ziK (α β:Nat) (hαβ:α≠β) (l:List Rdg) (g:List Bool) (p:By) (hl:l.length≤65536) (hg:g.length=l.length) (hp:p.length≤1048576) (H:Hp) (hα:H.f α=some (.vec (rcl l))) (hβ:H.f β=some (.vec (cl bo g))) (R:AV → Hp → Prop)
 (bad:zV ⟨l,g⟩ 1#8 p=none → ∀ x T,(∃ u v,zh x=some [u,v]) → R (.tup [x,.p (bo false)]) (app H T))
 (good : ∀ s',zV ⟨l,g⟩ 1#8 p=some s' → ∀ T,R (.tup [.agg [.vr α s'.l.length 4,.vr β s'.gone.length 1],.p (bo true)]) (app ((H.set α (.vec (rcl s'.l))).set β (.vec (cl bo s'.gone))) T)) :
 ACall Tryd.prog G 61 [.agg [.vr α l.length 4,.vr β g.length 1],.p (.sl false 1 (pl b8 p))] H R:=by
 have hαn:=Hp.lt hα
 have hβn:=Hp.lt hβ
 have hcl:(cl bo g).length=g.length:=y4
 have hrl:(rcl l).length=l.length*4:=zd9
 have hpl:=zqm (b:=p)
 have fail : ∀ x T,zV ⟨l,g⟩ 1#8 p=none → ∀ H',H'=app H T → (∃ u v,zh x=some [u,v]) → R (.tup [x,.p (bo false)]) H':=fun x T e H' h=>by subst h;exact bad e x T
 have n0:zcP p=none → zV ⟨l,g⟩ 1#8 p=none:=fun e=>by rw [zV,if_pos rfl,e]
 have a3 : ∀ x y z,((H.new x).new y).new z=app H [x,y,z]:=fun _ _ _=>rfl
 refine ACall.of_run (raw:=[]) Tryd.func61 rfl Tryd.ntmps61 (by simp) fun hbel => ?_
 refine .q ?_;refine .text ?_;simp (disch:=first|exact za|fail) only [go_sem,seval,-List.reduceReplicate]
 refine .q ?_;refine .text ?_;simp (disch:=first|exact za|fail) only [go_sem,seval,-List.reduceReplicate]
 refine CallK.of (fun R h=>zgZ p hp _ R h) ?_;simp (disch:=first|exact za|fail) only [go_sem,seval,-List.reduceReplicate]
 cases hps:zcP p with
 | none =>
  have he:=znm hps
  generalize zco p=X at he hpl
  obtain⟨⟨r,cs⟩,b⟩:=X
  dsimp only at he hpl ⊢
  subst he
  simp (disch:=first|exact za|fail) only [go_sem,seval,-List.reduceReplicate,zal]
  refine .q ?_;refine .text ?_;simp (disch:=first|exact za|fail) only [go_sem,seval,-List.reduceReplicate]
  refine .q ?_;refine .ifT (by simp (disch:=first|exact za|fail) only [go_sem,seval,-List.reduceReplicate]) ?_
  refine .q ?_;refine .text ?_;simp (disch:=first|exact za|fail) only [go_sem,seval,-List.reduceReplicate]
  refine .q ?_;refine .retKeep Tryd.func61 (by rw [Tryd.results61]) (by simp (disch:=first|exact za|fail) only [go_sem,seval,-List.reduceReplicate];rfl) ?_;(try simp (disch:=first|exact za|fail) only [go_sem,seval,-List.reduceReplicate])
  exact fail _ [_,_,_] (n0 hps) _ (a3 _ _ _) ⟨_,_,rfl⟩
 | some q =>
  obtain⟨rows,cs⟩:=q
  have he:=znl hps
  rw [he] at hpl ⊢
  dsimp only at hpl ⊢
  have hpr:=zgs (l:=l) (g:=g) hps
  simp (disch:=first|exact za|fail) only [go_sem,seval,-List.reduceReplicate,zal]
  refine .q ?_;refine .text ?_;simp (disch:=first|exact za|fail) only [go_sem,seval,-List.reduceReplicate]
  refine .q ?_;refine .ifF (by simp (disch:=first|exact za|fail) only [go_sem,seval,-List.reduceReplicate]) ?_
  refine .skip ?_
  refine .q ?_;refine .text ?_;simp (disch:=first|exact za|fail) only [go_sem,seval,-List.reduceReplicate]
  refine CallK.of (fun R h=>yu (rows:Int) cs (fun c hc=>Nat.le_trans (hpl c hc) (by omega)) _ R h) ?_;simp (disch:=first|exact za|fail) only [go_sem,seval,-List.reduceReplicate]
  obtain⟨e,hee⟩ : ∃ e,e=(yC rows cs).2:=⟨_,rfl⟩
  obtain⟨W,hL⟩ : ∃ W,W=(yC rows cs).1:=⟨_,rfl⟩
  have hLl:e=0 → W.length=rows:=fun h=>by rw [hL];exact zk7 (by rw [←hee];exact h)
  have hLe:e=0 → rows≤4096:=fun h=>zoo (cs:=cs) (by rw [←hee];exact h)
  rw [←hee,←hL] at hpr ⊢
  by_cases c1:e=0
  rotate_left
  · have d1:(e != 0)=true:=by simpa using c1
    rw [if_neg fun q=>c1 q.2.1] at hpr
    refine .q ?_;refine .text ?_;simp (disch:=first|exact za|fail) only [go_sem,seval,-List.reduceReplicate,d1]
    refine .q ?_;refine .ifT (by simp (disch:=first|exact za|fail) only [go_sem,seval,-List.reduceReplicate]) ?_
    refine .q ?_;refine .text ?_;simp (disch:=first|exact za|fail) only [go_sem,seval,-List.reduceReplicate]
    refine .q ?_;refine .retKeep Tryd.func61 (by rw [Tryd.results61]) (by simp (disch:=first|exact za|fail) only [go_sem,seval,-List.reduceReplicate];rfl) ?_;(try simp (disch:=first|exact za|fail) only [go_sem,seval,-List.reduceReplicate])
    exact fail _ [_,_,_] hpr _ (a3 _ _ _) ⟨_,_,rfl⟩
  have hLr:=hLl c1
  have hLm:=hLe c1
  have d1:(e != 0)=false:=by simpa using c1
  by_cases c2:W.length=0
  · have d2:((W.length:Int) == 0)=true:=beq_iff_eq.2 (by omega)
    have hne : ¬ (0 < rows∧e=0∧l.length+rows≤65536):=by rintro ⟨q1,q2,q3⟩;omega
    rw [if_neg hne] at hpr
    refine .q ?_;refine .text ?_;simp (disch:=first|exact za|fail) only [go_sem,seval,-List.reduceReplicate,d1,d2]
    refine .q ?_;refine .ifT (by simp (disch:=first|exact za|fail) only [go_sem,seval,-List.reduceReplicate]) ?_
    refine .q ?_;refine .text ?_;simp (disch:=first|exact za|fail) only [go_sem,seval,-List.reduceReplicate]
    refine .q ?_;refine .retKeep Tryd.func61 (by rw [Tryd.results61]) (by simp (disch:=first|exact za|fail) only [go_sem,seval,-List.reduceReplicate];rfl) ?_;(try simp (disch:=first|exact za|fail) only [go_sem,seval,-List.reduceReplicate])
    exact fail _ [_,_,_] hpr _ (a3 _ _ _) ⟨_,_,rfl⟩
  have d2:((W.length:Int) == 0)=false:=beq_eq_false_iff_ne.2 (by omega)
  by_cases c3:65536 < l.length+W.length
  · have d3:decide ((65536:Int) < (l.length:Int)+(W.length:Int))=true:=decide_eq_true (by omega)
    have hne : ¬ (0 < rows∧e=0∧l.length+rows≤65536):=by rintro ⟨q1,q2,q3⟩;omega
    rw [if_neg hne] at hpr
    refine .q ?_;refine .text ?_;simp (disch:=first|exact za|fail) only [go_sem,seval,-List.reduceReplicate,d1,d2,d3]
    refine .q ?_;refine .ifT (by simp (disch:=first|exact za|fail) only [go_sem,seval,-List.reduceReplicate]) ?_
    refine .q ?_;refine .text ?_;simp (disch:=first|exact za|fail) only [go_sem,seval,-List.reduceReplicate]
    refine .q ?_;refine .retKeep Tryd.func61 (by rw [Tryd.results61]) (by simp (disch:=first|exact za|fail) only [go_sem,seval,-List.reduceReplicate];rfl) ?_;(try simp (disch:=first|exact za|fail) only [go_sem,seval,-List.reduceReplicate])
    exact fail _ [_,_,_] hpr _ (a3 _ _ _) ⟨_,_,rfl⟩
  have d3:decide ((65536:Int) < (l.length:Int)+(W.length:Int))=false:=decide_eq_false (by omega)
  rw [if_pos ⟨by omega,c1,by omega⟩] at hpr
  refine .q ?_;refine .text ?_;simp (disch:=first|exact za|fail) only [go_sem,seval,-List.reduceReplicate,d1,d2,d3]
  refine .q ?_;refine .ifF (by simp (disch:=first|exact za|fail) only [go_sem,seval,-List.reduceReplicate]) ?_
  refine .skip ?_
  have hs1:(H.set α (.vec (rcl l))).set β (.vec (cl bo g))=H:=by rw [Hp.set_same _ _ _ hα,Hp.set_same _ _ _ hβ]
  have hap:=zvj (l:=l) (m:=W)
  have hs2:(H.set α (.vec (rcl (l++W)))).set β (.vec (cl bo g))=H.set α (.vec (rcl (l++W))):=Hp.set_same _ _ _ (by rw [Hp.f_set_ne H _ _ _ (Ne.symm hαβ)];exact hβ)
  have hlr:(List.replicate W.length false).length=W.length:=List.length_replicate
  have hbp:=zqn (g:=g) (n:=W.length)
  have hcl2:(cl bo (g++List.replicate W.length false)).length=g.length+W.length:=by rw [y4,List.length_append,List.length_replicate]
  have hrl2:(rcl (l++W)).length=(l.length+W.length)*4:=by rw [zd9,List.length_append]
  have hset : ∀ (b:Nat) (x y:AB),((H.set α x).set β y).n=H.n:=fun _ _ _=>rfl
  (refine .q ?_)
  refine .openInv (fun L env' H'=>kF env' [(2,.ptr H.n 0),(4,.ptr (H.n+1) 0),(8,.p (.sl false 4 (pl zv W)))]∧kI L env' [(0,40,.ptr H.n 0),(1,41,.vr α l.length 4),(2,42,.p (.sl false 4 (pl zv W))),(3,43,.vr α (l.length+W.length) 4),(4,44,.ptr H.n 1),(5,45,.vr β g.length 1),(6,46,.p (.sl false 4 (pl zv W))),(7,47,.p (i64 W.length)),(8,48,.vr β (g.length+W.length) 1),(9,49,.agg [.vr α (l.length+W.length) 4,.vr β (g.length+W.length) 1]),(11,5,.p (bo true))]∧(L 3=true → allT L [1,2])∧(L 8=true → allT L [3,5,7])∧(L 10=true → allT L [0,1,2,3,4,5,6,7,8,9])∧H'=(((((H.set α (if L 3 then .vec (rcl (l++W)) else .vec (rcl l))).set β (if L 8 then .vec (cl bo (g++List.replicate W.length false)) else .vec (cl bo g))).new (.cells [.vr α l.length 4,.vr β g.length 1])).new (.cells (if L 10 then [.vr α (l.length+W.length) 4,.vr β (g.length+W.length) 1] else [.p (.sl true 4 []),.p (.sl true 1 [])]))).new (.cells [.p (i64 rows),.p (.sl false 1 (pl (sle 1 b8) cs))]))) follows (by kernel_rfl) ?_ ?_ ?_
  · exact⟨(by simp (disch:=first|exact za|fail) only [go_sem,seval,-List.reduceReplicate,kFi,kFn,and_self,hs1,hα,hβ,hs2,hap,hbp,hcl,hrl,hlr]),(fun _ _ h=>by cases h),(fun h=>by cases h),(fun h=>by cases h),(fun h=>by cases h),(by first | rfl | (simp only [Bool.false_eq_true,if_false];first | rfl | (simp (disch:=first|exact za|fail) only [go_sem,seval,-List.reduceReplicate,hs1,hα,hβ,hs2,hap,hbp,hcl,hrl,hlr]<;>rfl)))⟩
  · intro i o L env' H' ho hL hall hI
    obtain⟨KF,KG,m3,m8,m10,rfl⟩:=hI
    rcases i with _ | _ | _ | _ | _ | _ | _ | _ | _ | _ | _ | _ | i
    · cases ho;have f0:=kFg KF 0 rfl;refine zg (.ptr H.n 0) rfl rfl (by simp (disch:=first|exact za|fail) only [go_sem,seval,-List.reduceReplicate,f0,hs1,hα,hβ,hs2,hap,hbp,hcl,hrl,hlr]<;>rfl) rfl ?_;exact⟨yp KF,yq KG,ka m3,ka m8,ka m10,(by rw [zb (by decide),zb (by decide),zb (by decide)])⟩
    · cases ho;have d0:=z5 KG 0 rfl (kL hall 0 rfl rfl);have n3:=nfT m3 hL;have n10:=nfT m10 hL;refine zg (.vr α l.length 4) rfl rfl (by simp (disch:=first|exact za|fail) only [go_sem,seval,-List.reduceReplicate,reduceIte,Bool.false_eq_true,if_false,if_true,d0,n3,n10,hL,hs1,hα,hβ,hs2,hap,hbp,hcl,hrl,hlr]<;>rfl) rfl ?_;exact⟨yp KF,yq KG,ka m3,ka m8,ka m10,(by rw [zb (by decide),zb (by decide),zb (by decide)])⟩
    · cases ho;have f2:=kFg KF 2 rfl;refine zg (.p (.sl false 4 (pl zv W))) rfl rfl (by simp (disch:=first|exact za|fail) only [go_sem,seval,-List.reduceReplicate,f2,hs1,hα,hβ,hs2,hap,hbp,hcl,hrl,hlr]<;>rfl) rfl ?_;exact⟨yp KF,yq KG,ka m3,ka m8,ka m10,(by rw [zb (by decide),zb (by decide),zb (by decide)])⟩
    · cases ho;have h1:=kL hall 0 rfl rfl;have d1:=z5 KG 1 rfl h1;have h2:=kL hall 1 rfl rfl;have d2:=z5 KG 2 rfl h2;have n8:=nfT m8 hL;have n10:=nfT m10 hL;(try simp only [n8,n10,hL,if_true,if_false,Bool.false_eq_true]);refine zgj (.vr α (l.length+W.length) 4) rfl rfl (by simp (disch:=first|exact za|fail) only [go_sem,seval,-List.reduceReplicate,reduceIte,Bool.false_eq_true,if_false,if_true,d1,d2,n8,n10,hL,hs1,hα,hβ,hs2,hap,hbp,hcl,hrl,hlr]<;>rfl) rfl ?_;exact⟨yp KF,yq KG,(fun _=>kt (zi h1 (zi h2 yB))),ka m8,ka m10,(by (have e3:more L 3 3=true:=yX);(have e8:more L 3 8=L 8:=zb (by decide));(have e10:more L 3 10=L 10:=zb (by decide));(try simp only [e3,e8,e10,n8,n10,hL]);first | done | rfl | (simp only [e3,e8,e10,n8,n10,hL,if_true,if_false,Bool.false_eq_true];first | done | rfl | (simp (disch:=first|exact za|fail) only [go_sem,seval,-List.reduceReplicate,e3,e8,e10,n8,n10,hL,hs1,hα,hβ,hs2,hap,hbp,hcl,hrl,hlr]<;>rfl)))⟩
    · cases ho;have f0:=kFg KF 0 rfl;refine zg (.ptr H.n 1) rfl rfl (by simp (disch:=first|exact za|fail) only [go_sem,seval,-List.reduceReplicate,f0,hs1,hα,hβ,hs2,hap,hbp,hcl,hrl,hlr]<;>rfl) rfl ?_;exact⟨yp KF,yq KG,ka m3,ka m8,ka m10,(by rw [zb (by decide),zb (by decide),zb (by decide)])⟩
    · cases ho;have d4:=z5 KG 4 rfl (kL hall 0 rfl rfl);have n8:=nfT m8 hL;have n10:=nfT m10 hL;refine zg (.vr β g.length 1) rfl rfl (by simp (disch:=first|exact za|fail) only [go_sem,seval,-List.reduceReplicate,reduceIte,Bool.false_eq_true,if_false,if_true,d4,n8,n10,hL,hs1,hα,hβ,hs2,hap,hbp,hcl,hrl,hlr]<;>rfl) rfl ?_;exact⟨yp KF,yq KG,ka m3,ka m8,ka m10,(by rw [zb (by decide),zb (by decide),zb (by decide)])⟩
    · cases ho;have f2:=kFg KF 2 rfl;refine zg (.p (.sl false 4 (pl zv W))) rfl rfl (by simp (disch:=first|exact za|fail) only [go_sem,seval,-List.reduceReplicate,f2,hs1,hα,hβ,hs2,hap,hbp,hcl,hrl,hlr]<;>rfl) rfl ?_;exact⟨yp KF,yq KG,ka m3,ka m8,ka m10,(by rw [zb (by decide),zb (by decide),zb (by decide)])⟩
    · cases ho;have d6:=z5 KG 6 rfl (kL hall 0 rfl rfl);have n8:=nfT m8 hL;have n10:=nfT m10 hL;refine zg (.p (i64 W.length)) rfl rfl (by simp (disch:=first|exact za|fail) only [go_sem,seval,-List.reduceReplicate,reduceIte,Bool.false_eq_true,if_false,if_true,d6,n8,n10,hL,hs1,hα,hβ,hs2,hap,hbp,hcl,hrl,hlr]<;>rfl) rfl ?_;exact⟨yp KF,yq KG,ka m3,ka m8,ka m10,(by rw [zb (by decide),zb (by decide),zb (by decide)])⟩
    · cases ho;have h5:=kL hall 0 rfl rfl;have d5:=z5 KG 5 rfl h5;have h7:=kL hall 1 rfl rfl;have d7:=z5 KG 7 rfl h7;have h3:=kL hall 2 rfl rfl;have n10:=nfT m10 hL;(try simp only [h3,n10,hL,if_true,if_false,Bool.false_eq_true]);refine zgj (.vr β (g.length+W.length) 1) rfl rfl (by simp (disch:=first|exact za|fail) only [go_sem,seval,-List.reduceReplicate,reduceIte,Bool.false_eq_true,if_false,if_true,d5,d7,h3,n10,hL,hs1,hα,hβ,hs2,hap,hbp,hcl,hrl,hlr]<;>rfl) rfl ?_;exact⟨yp KF,yq KG,ka m3,(fun _=>kt (zi h3 (zi h5 (zi h7 yB)))),ka m10,(by (have e3:more L 8 3=L 3:=zb (by decide));(have e8:more L 8 8=true:=yX);(have e10:more L 8 10=L 10:=zb (by decide));(try simp only [e3,e8,e10,h3,n10,hL]);first | done | rfl | (simp only [e3,e8,e10,h3,n10,hL,if_true,if_false,Bool.false_eq_true];first | done | rfl | (simp (disch:=first|exact za|fail) only [go_sem,seval,-List.reduceReplicate,e3,e8,e10,h3,n10,hL,hs1,hα,hβ,hs2,hap,hbp,hcl,hrl,hlr]<;>rfl)))⟩
    · cases ho;have h3:=kL hall 0 rfl rfl;have d3:=z5 KG 3 rfl h3;have h8:=kL hall 1 rfl rfl;have d8:=z5 KG 8 rfl h8;have n10:=nfT m10 hL;refine zg (.agg [.vr α (l.length+W.length) 4,.vr β (g.length+W.length) 1]) rfl rfl (by simp (disch:=first|exact za|fail) only [go_sem,seval,-List.reduceReplicate,reduceIte,Bool.false_eq_true,if_false,if_true,d3,d8,h3,h8,n10,hL,hs1,hα,hβ,hs2,hap,hbp,hcl,hrl,hlr]<;>rfl) rfl ?_;exact⟨yp KF,yq KG,ka m3,ka m8,ka m10,(by rw [zb (by decide),zb (by decide),zb (by decide)])⟩
    · cases ho;have h9:=kL hall 0 rfl rfl;have d9:=z5 KG 9 rfl h9;have h8:=kL hall 1 rfl rfl;have h0:=kL hall 2 rfl rfl;have h1:=kL hall 3 rfl rfl;have h2:=kL hall 4 rfl rfl;have h3:=kL hall 5 rfl rfl;have h4:=kL hall 6 rfl rfl;have h5:=kL hall 7 rfl rfl;have h6:=kL hall 8 rfl rfl;have h7:=kL hall 9 rfl rfl;have f1:=kFg KF 1 rfl;refine zbl rfl rfl (by simp (disch:=first|exact za|fail) only [go_sem,seval,-List.reduceReplicate,reduceIte,Bool.false_eq_true,if_false,if_true,f1,d9,h3,h8,hL,hs1,hα,hβ,hs2,hap,hbp,hcl,hrl,hlr]<;>rfl) rfl ?_;exact⟨KF,kIs KG,ka m3,ka m8,(fun _=>kt (zi h0 (zi h1 (zi h2 (zi h3 (zi h4 (zi h5 (zi h6 (zi h7 (zi h8 (zi h9 yB))))))))))),(by (have e3:more L 10 3=L 3:=zb (by decide));(have e8:more L 10 8=L 8:=zb (by decide));(have e10:more L 10 10=true:=yX);(try simp only [e3,e8,e10,h3,h8,hL]);first | done | rfl | (simp only [e3,e8,e10,h3,h8,hL,if_true,if_false,Bool.false_eq_true];first | done | rfl | (simp (disch:=first|exact za|fail) only [go_sem,seval,-List.reduceReplicate,e3,e8,e10,h3,h8,hL,hs1,hα,hβ,hs2,hap,hbp,hcl,hrl,hlr]<;>rfl)))⟩
    · cases ho;refine zg (.p (bo true)) rfl rfl (by simp (disch:=first|exact za|fail) only [go_sem,seval,-List.reduceReplicate,hs1,hα,hβ,hs2,hap,hbp,hcl,hrl,hlr]<;>rfl) rfl ?_;exact⟨yp KF,yq KG,ka m3,ka m8,ka m10,(by rw [zb (by decide),zb (by decide),zb (by decide)])⟩
    · simp at ho
  · intro L env' H' hall hI
    obtain⟨KF,KG,_,_,_,rfl⟩:=hI
    have l3:=hall 3 (by decide)
    have l8:=hall 8 (by decide)
    have l10:=hall 10 (by decide)
    have f0:=kFg KF 0 rfl
    have f1:=kFg KF 1 rfl
    have f2:=kFg KF 2 rfl
    have g11:=z5 KG 10 rfl (hall 11 (by decide))
    simp only [l3,l8,l10,if_true]
    clear hall
    refine .q ?_;refine .retKeep Tryd.func61 (by rw [Tryd.results61]) (by simp (disch:=first|exact za|fail) only [go_sem,seval,-List.reduceReplicate,f1,g11];rfl) ?_;(try simp (disch:=first|exact za|fail) only [go_sem,seval,-List.reduceReplicate,f1,g11])
    have e:=good ⟨l++W,g++List.replicate W.length false⟩ (by rw [hpr,hLr]) [.cells [.vr α l.length 4,.vr β g.length 1],.cells [.vr α (l.length+W.length) 4,.vr β (g.length+W.length) 1],.cells [.p (i64 rows),.p (.sl false 1 (pl (sle 1 b8) cs))]]
    simp only [List.length_append,List.length_replicate] at e
    exact e
theorem zef {l:List Rdg} {g:List Bool} {p:By}:zV ⟨l,g⟩ 2#8 p=if p.length=4 then zdz ⟨l,g⟩ (val p) else none:=by
 unfold zV
 rw [if_neg (by decide)]
 by_cases h:p.length=4
 · rw [if_pos ⟨rfl,h⟩,if_pos h]
 · rw [if_neg fun e=>h e.2,if_neg h]
set_option maxHeartbeats 4000000 in
set_option maxRecDepth 20000 in
theorem ziL (α β:Nat) (l:List Rdg) (g:List Bool) (p:By) (hl:l.length≤65536) (hg:g.length=l.length) (H:Hp) (hα:H.f α=some (.vec (rcl l))) (hβ:H.f β=some (.vec (cl bo g))) (R:AV → Hp → Prop)
 (bad:zV ⟨l,g⟩ 2#8 p=none → ∀ x T,(∃ u v,zh x=some [u,v]) → R (.tup [x,.p (bo false)]) (app H T))
 (good : ∀ s',zV ⟨l,g⟩ 2#8 p=some s' → ∀ γ T,H.n≤γ → γ < H.n+T.length → (app H T).f γ=some (.vec (cl bo s'.gone)) → R (.tup [.agg [.vr α s'.l.length 4,.vr γ s'.gone.length 1],.p (bo true)]) (app H T)) :
 ACall Tryd.prog G 63 [.agg [.vr α l.length 4,.vr β g.length 1],.p (.sl false 1 (pl b8 p))] H R:=by
 have hαn:=Hp.lt hα
 have hβn:=Hp.lt hβ
 have fail : ∀ x T,zV ⟨l,g⟩ 2#8 p=none → ∀ H',H'=app H T → (∃ u v,zh x=some [u,v]) → R (.tup [x,.p (bo false)]) H':=fun x T e H' h=>by subst h;exact bad e x T
 have a2 : ∀ x y,(H.new x).new y=app H [x,y]:=fun _ _=>rfl
 rw [zef] at bad good fail
 refine ACall.of_run (raw:=[]) Tryd.func63 rfl Tryd.ntmps63 (by simp) fun hbel => ?_
 refine .q ?_;refine .text ?_;simp (disch:=first|exact za|fail) only [go_sem,seval,-List.reduceReplicate]
 by_cases c1:p.length=4
 rotate_left
 · have d1:((p.length:Int) != 4)=true:=bne_iff_ne.2 (by omega)
   rw [if_neg c1] at fail
   refine .q ?_;refine .text ?_;simp (disch:=first|exact za|fail) only [go_sem,seval,-List.reduceReplicate,d1]
   refine .q ?_;refine .ifT (by simp (disch:=first|exact za|fail) only [go_sem,seval,-List.reduceReplicate]) ?_
   refine .q ?_;refine .text ?_;simp (disch:=first|exact za|fail) only [go_sem,seval,-List.reduceReplicate]
   refine .q ?_;refine .retKeep Tryd.func63 (by rw [Tryd.results63]) (by simp (disch:=first|exact za|fail) only [go_sem,seval,-List.reduceReplicate];rfl) ?_;(try simp (disch:=first|exact za|fail) only [go_sem,seval,-List.reduceReplicate])
   exact fail _ [_,_] rfl _ (a2 _ _) ⟨_,_,rfl⟩
 have d1:((p.length:Int) != 4)=false:=by simp;omega
 rw [if_pos c1] at bad good
 obtain⟨n,hn⟩ : ∃ n,n=val p:=⟨_,rfl⟩
 rw [←hn] at bad good
 refine .q ?_;refine .text ?_;simp (disch:=first|exact za|fail) only [go_sem,seval,-List.reduceReplicate,d1]
 refine .q ?_;refine .ifF (by simp (disch:=first|exact za|fail) only [go_sem,seval,-List.reduceReplicate]) ?_
 refine .skip ?_
 by_cases c2:n < l.length∧nth g n=false
 rotate_left
 · have hrn:zdz ⟨l,g⟩ n=none:=by
    unfold zdz
    rw [if_neg fun e=>c2 ⟨e.1,e.2⟩]
   have hre : ∃ e,yy ⟨l,g⟩ (n:Int)=(z0S,e)∧e≠0:=by
    unfold yy
    by_cases c3:n < l.length
    · have c4:nth g n=true:=by
       cases h:nth g n with
       | true=>rfl
       | false=>exact absurd ⟨c3,h⟩ c2
      refine⟨120,?_,by decide⟩
      rw [if_neg (by dsimp only;omega),Int.toNat_natCast,c4,if_pos rfl]
    · exact⟨4,by rw [if_pos (.inr (by dsimp only;omega))],by decide⟩
   obtain⟨e,he,hne⟩:=hre
   have hret : ∀ (B:Hp),B.f α=some (.vec (rcl l)) → B.f β=some (.vec (cl bo g)) → ACall Tryd.prog G 52 [.agg [.vr α l.length 4,.vr β g.length 1],.p (i64 (n:Nat))] B (fun r H'=>r = .tup [.p (yt z0S),.p (i64 e)]∧H'=B):=fun B h1 h2 =>
    zeb α β l g n hl hg B h1 h2 _ (fun e' he' _=>by rw [he] at he';cases he';exact⟨rfl,rfl⟩) (fun k hk hk2 hk3=>by
     have hnk:n=k:=by omega
     subst hnk
     exact absurd ⟨by omega,hk3⟩ c2)
   have de:(e == 0)=false:=beq_eq_false_iff_ne.2 hne
   refine .q ?_;refine .openTr (.one 0 (.one 1 (.fork 2 7 (.fork 3 7 (.lin [4,5,6,7,8,9]) (.lin [3,4,5,6,8,9])) (.lin [2,3,4,5,6,8,9])))) [3,7,8] follows (by kernel_rfl) ?_
   refine zl (.agg [.vr α l.length 4,.vr β g.length 1]) rfl rfl (by simp (disch:=first|exact za|fail) only [go_sem,seval,-List.reduceReplicate]<;>rfl) rfl ?_
   refine zl (.p (.sl false 1 (pl b8 p))) rfl rfl (by simp (disch:=first|exact za|fail) only [go_sem,seval,-List.reduceReplicate]<;>rfl) rfl ?_
   refine And.intro (yA (.p (i64 (n:Nat))) rfl rfl (by simp (disch:=first|exact za|fail) only [go_sem,seval,-List.reduceReplicate]<;>rfl) (by rfl) rfl (fun R h=>yr p (by omega) _ R (by rw [←hn];exact h)) (And.intro ?_ ?_)) ?_
   · refine zet rfl rfl (by simp (disch:=first|exact za|fail) only [go_sem,seval,-List.reduceReplicate]<;>rfl) (by rfl) rfl (hret _ (by simp (disch:=first|exact za|fail) only [go_sem,seval,-List.reduceReplicate];exact hα) (by simp (disch:=first|exact za|fail) only [go_sem,seval,-List.reduceReplicate];exact hβ)) fun r H' ⟨e1,e2⟩ => ?_
     subst e1 e2
     refine zA [3,4] (by kernel_rfl) ?_
     simp (disch:=first|exact za|fail) only [go_sem,seval,-List.reduceReplicate]
     refine .q ?_;refine .text ?_;simp (disch:=first|exact za|fail) only [go_sem,seval,-List.reduceReplicate,de]
     refine .q ?_;refine .rt Tryd.func63 (by rw [Tryd.results63]) (hR := ?_);simp (disch:=first|exact za|fail) only [go_sem,seval,-List.reduceReplicate]
     exact bad hrn _ [] ⟨_,_,rfl⟩
   · refine yc (.ptr (H.n+2) 0) rfl rfl (by simp (disch:=first|exact za|fail) only [go_sem,seval,-List.reduceReplicate]<;>rfl) rfl ?_
     refine zA [0,4] (by kernel_rfl) ?_
     simp (disch:=first|exact za|fail) only [go_sem,seval,-List.reduceReplicate]
     refine CallD.moves (hret _ (by simp (disch:=first|exact za|fail) only [go_sem,seval,-List.reduceReplicate];exact hα) (by simp (disch:=first|exact za|fail) only [go_sem,seval,-List.reduceReplicate];exact hβ)) fun r H' ⟨e1,e2⟩ => ?_
     subst e1 e2
     simp (disch:=first|exact za|fail) only [go_sem,seval,-List.reduceReplicate]
     refine .q ?_;refine .text ?_;simp (disch:=first|exact za|fail) only [go_sem,seval,-List.reduceReplicate,de]
     refine .q ?_;refine .rt Tryd.func63 (by rw [Tryd.results63]) (hR := ?_);simp (disch:=first|exact za|fail) only [go_sem,seval,-List.reduceReplicate]
     exact bad hrn _ [] ⟨_,_,rfl⟩
   · refine yc (.ptr (H.n+2) 0) rfl rfl (by simp (disch:=first|exact za|fail) only [go_sem,seval,-List.reduceReplicate]<;>rfl) rfl ?_
     refine zA [1,5] (by kernel_rfl) ?_
     simp (disch:=first|exact za|fail) only [go_sem,seval,-List.reduceReplicate]
     refine CallD.still (fun R h=>yr p (by omega) _ R h) ?_;simp (disch:=first|exact za|fail) only [go_sem,seval,-List.reduceReplicate,←hn]
     refine CallD.moves (hret _ (by simp (disch:=first|exact za|fail) only [go_sem,seval,-List.reduceReplicate];exact hα) (by simp (disch:=first|exact za|fail) only [go_sem,seval,-List.reduceReplicate];exact hβ)) fun r H' ⟨e1,e2⟩ => ?_
     subst e1 e2
     simp (disch:=first|exact za|fail) only [go_sem,seval,-List.reduceReplicate]
     refine .q ?_;refine .text ?_;simp (disch:=first|exact za|fail) only [go_sem,seval,-List.reduceReplicate,de]
     refine .q ?_;refine .rt Tryd.func63 (by rw [Tryd.results63]) (hR := ?_);simp (disch:=first|exact za|fail) only [go_sem,seval,-List.reduceReplicate]
     exact bad hrn _ [] ⟨_,_,rfl⟩
 · have hrn:zdz ⟨l,g⟩ n=some ⟨l,g.set n true⟩:=by
    unfold zdz
    rw [if_pos ⟨c2.1,c2.2⟩]
   have fin : ∀ γ T H',H'=app H T → H.n≤γ → γ < H.n+T.length → H'.f γ=some (.vec (cl bo (g.set n true))) → R (.tup [.agg [.vr α l.length 4,.vr γ g.length 1],.p (bo true)]) H':=fun γ T H' e h1 h2 h3=>by
    subst e
    have:=good _ hrn γ T h1 h2 h3
    rw [List.length_set] at this
    exact this
   have hret : ∀ (B:Hp),B.f α=some (.vec (rcl l)) → B.f β=some (.vec (cl bo g)) → ACall Tryd.prog G 52 [.agg [.vr α l.length 4,.vr β g.length 1],.p (i64 (n:Nat))] B (fun r H'=>r = .tup [.agg [.vr α l.length 4,.vr (B.n+2) g.length 1],.p (i64 0)]∧H'=((B.new (.cells [.vr α l.length 4,.vr β g.length 1])).new (.cells [.vr α l.length 4,.vr (B.n+2) g.length 1])).new (.vec (cl bo (g.set n true)))):=fun B h1 h2 =>
    zeb α β l g n hl hg B h1 h2 _ (fun e' he' hne=>by
     unfold yy at he'
     rw [if_neg (by dsimp only;omega),Int.toNat_natCast,c2.2,if_neg (by decide)] at he'
     exact absurd (congrArg Prod.snd he').symm hne) (fun k hk hk2 hk3=>by
     have hnk:n=k:=by omega
     subst hnk
     exact⟨rfl,rfl⟩)
   refine .q ?_;refine .openTr (.one 0 (.one 1 (.fork 2 7 (.fork 3 7 (.lin [4,5,6,7,8,9]) (.lin [3,4,5,6,8,9])) (.lin [2,3,4,5,6,8,9])))) [3,7,8] follows (by kernel_rfl) ?_
   refine zl (.agg [.vr α l.length 4,.vr β g.length 1]) rfl rfl (by simp (disch:=first|exact za|fail) only [go_sem,seval,-List.reduceReplicate]<;>rfl) rfl ?_
   refine zl (.p (.sl false 1 (pl b8 p))) rfl rfl (by simp (disch:=first|exact za|fail) only [go_sem,seval,-List.reduceReplicate]<;>rfl) rfl ?_
   refine And.intro (yA (.p (i64 (n:Nat))) rfl rfl (by simp (disch:=first|exact za|fail) only [go_sem,seval,-List.reduceReplicate]<;>rfl) (by rfl) rfl (fun R h=>yr p (by omega) _ R (by rw [←hn];exact h)) (And.intro ?_ ?_)) ?_
   · refine zet rfl rfl (by simp (disch:=first|exact za|fail) only [go_sem,seval,-List.reduceReplicate]<;>rfl) (by rfl) rfl (hret _ (by simp (disch:=first|exact za|fail) only [go_sem,seval,-List.reduceReplicate];exact hα) (by simp (disch:=first|exact za|fail) only [go_sem,seval,-List.reduceReplicate];exact hβ)) fun r H' ⟨e1,e2⟩ => ?_
     subst e1 e2
     refine zA [3,4] (by kernel_rfl) ?_
     simp (disch:=first|exact za|fail) only [go_sem,seval,-List.reduceReplicate]
     refine .q ?_;refine .text ?_;simp (disch:=first|exact za|fail) only [go_sem,seval,-List.reduceReplicate]
     refine .q ?_;refine .retKeep Tryd.func63 (by rw [Tryd.results63]) (by simp (disch:=first|exact za|fail) only [go_sem,seval,-List.reduceReplicate];rfl) ?_;(try simp (disch:=first|exact za|fail) only [go_sem,seval,-List.reduceReplicate])
     exact fin (H.n+4) [_,_,_,_,_,_] _ rfl (by omega) (by show _ < H.n+6;omega) (by simp (disch:=first|exact za|fail) only [go_sem,seval,-List.reduceReplicate])
   · refine yc (.ptr (H.n+2) 0) rfl rfl (by simp (disch:=first|exact za|fail) only [go_sem,seval,-List.reduceReplicate]<;>rfl) rfl ?_
     refine zA [0,4] (by kernel_rfl) ?_
     simp (disch:=first|exact za|fail) only [go_sem,seval,-List.reduceReplicate]
     refine CallD.moves (hret _ (by simp (disch:=first|exact za|fail) only [go_sem,seval,-List.reduceReplicate];exact hα) (by simp (disch:=first|exact za|fail) only [go_sem,seval,-List.reduceReplicate];exact hβ)) fun r H' ⟨e1,e2⟩ => ?_
     subst e1 e2
     simp (disch:=first|exact za|fail) only [go_sem,seval,-List.reduceReplicate]
     refine .q ?_;refine .text ?_;simp (disch:=first|exact za|fail) only [go_sem,seval,-List.reduceReplicate]
     refine .q ?_;refine .retKeep Tryd.func63 (by rw [Tryd.results63]) (by simp (disch:=first|exact za|fail) only [go_sem,seval,-List.reduceReplicate];rfl) ?_;(try simp (disch:=first|exact za|fail) only [go_sem,seval,-List.reduceReplicate])
     exact fin (H.n+5) [_,_,_,_,_,_] _ rfl (by omega) (by show _ < H.n+6;omega) (by simp (disch:=first|exact za|fail) only [go_sem,seval,-List.reduceReplicate])
   · refine yc (.ptr (H.n+2) 0) rfl rfl (by simp (disch:=first|exact za|fail) only [go_sem,seval,-List.reduceReplicate]<;>rfl) rfl ?_
     refine zA [1,5] (by kernel_rfl) ?_
     simp (disch:=first|exact za|fail) only [go_sem,seval,-List.reduceReplicate]
     refine CallD.still (fun R h=>yr p (by omega) _ R h) ?_;simp (disch:=first|exact za|fail) only [go_sem,seval,-List.reduceReplicate,←hn]
     refine CallD.moves (hret _ (by simp (disch:=first|exact za|fail) only [go_sem,seval,-List.reduceReplicate];exact hα) (by simp (disch:=first|exact za|fail) only [go_sem,seval,-List.reduceReplicate];exact hβ)) fun r H' ⟨e1,e2⟩ => ?_
     subst e1 e2
     simp (disch:=first|exact za|fail) only [go_sem,seval,-List.reduceReplicate]
     refine .q ?_;refine .text ?_;simp (disch:=first|exact za|fail) only [go_sem,seval,-List.reduceReplicate]
     refine .q ?_;refine .retKeep Tryd.func63 (by rw [Tryd.results63]) (by simp (disch:=first|exact za|fail) only [go_sem,seval,-List.reduceReplicate];rfl) ?_;(try simp (disch:=first|exact za|fail) only [go_sem,seval,-List.reduceReplicate])
     exact fin (H.n+5) [_,_,_,_,_,_] _ rfl (by omega) (by show _ < H.n+6;omega) (by simp (disch:=first|exact za|fail) only [go_sem,seval,-List.reduceReplicate])
end walks
end Go.Proofs.YtdpfkanfahchjaaDoor

/-
  The log of readings: what the operations come to (plain).
-/
namespace Go.Proofs.YtdpfkanfahchjaaDoor
open Go Go.AL

theorem zop : ∀ {b:By},yD b.length (val b)=b
 | []=>rfl
 | x :: t=>by
  have hx:=x.isLt
  have h1:(x.toNat+256*val t) / 256=val t:=by omega
  have h2:BitVec.ofNat 8 (x.toNat+256*val t)=x:=by
   apply BitVec.eq_of_toNat_eq
   rw [BitVec.toNat_ofNat];omega
  rw [List.length_cons,yD,val,h1,h2,zop]
theorem zwO {b:By} {k:BitVec 8} {p r:By} (h:spl b=some (k,p,r)):b=rcd k p++r:=by
 have hlen:=zaC h
 unfold spl at h
 split at h
 · cases h
 · rename_i c1
   split at h
   · cases h
   · rename_i c2
     split at h
     · rename_i c3
       obtain⟨n,hn⟩ : ∃ n,n=val (b.take 4):=⟨_,rfl⟩
       rw [←hn] at h c2 c3 hlen
       simp only [Option.some.injEq,Prod.mk.injEq] at h
       obtain⟨hk,hp,hr⟩:=h
       have h4:(b.take 4).length=4:=by rw [List.length_take];omega
       have e4:yD 4 p.length=b.take 4:=by
        have:=zop (b:=b.take 4)
        rw [h4,←hn] at this
        rw [hlen.2.2];exact this
       have ekp:k :: p=(b.drop 4).take (1+n):=by
        have hd:b.drop 4=b[4] :: b.drop 5:=List.drop_eq_getElem_cons (by omega)
        have hk':k=b[4]:=by rw [←hk,List.getElem?_eq_getElem (by omega)];rfl
        rw [hd,Nat.add_comm,List.take_succ_cons,hk']
        exact congrArg _ hp.symm
       have e8:(sha (k :: p)).take 8=(b.drop (5+n)).take 8:=by rw [ekp];exact c3
       rw [rcd,e4,e8,ekp,←hr]
       have s1:(b.drop 4).take (1+n)++(b.drop 4).drop (1+n)=b.drop 4:=List.take_append_drop _ _
       have s2:(b.drop (5+n)).take 8++(b.drop (5+n)).drop 8=b.drop (5+n):=List.take_append_drop _ _
       rw [List.drop_drop,show 4+(1+n)=5+n by omega] at s1
       rw [List.drop_drop,show 5+n+8=13+n by omega] at s2
       rw [List.append_assoc,List.append_assoc,s2,s1,List.take_append_drop]
     · cases h
theorem zgt : ∀ {s:Strm} {b:By},Log s (b.take (b.length - (ld s b).2.1)) (ld s b).1∧((ld s b).2.2=true ↔ (ld s b).2.1=0)
 | s,b=>by
  by_cases hb:b.length=0
  · rw [List.eq_nil_of_length_eq_zero hb,zaQ]
    exact⟨.nil _,by simp⟩
  · cases h:spl b with
    | none=>rw [zbB hb h,Nat.sub_self,List.take_zero];exact⟨.nil _,by simpa using fun e=>hb (by rw [e];rfl)⟩
    | some q =>
     obtain⟨k,p,r⟩:=q
     have hl:=zaC h
     have he:=zwO h
     cases h2:zV s k p with
     | none=>rw [zdA h h2,Nat.sub_self,List.take_zero];exact⟨.nil _,by simpa using fun e=>hb (by rw [e];rfl)⟩
     | some s' =>
      obtain⟨i1,i2⟩:=zgt (s:=s') (b:=r)
      rw [za0 h h2]
      refine⟨?_,i2⟩
      have hr:=ziw (s:=s') (b:=r)
      have:b.take (b.length - (ld s' r).2.1)=rcd k p++r.take (r.length - (ld s' r).2.1):=by
       conv=>lhs;rw [he]
       rw [List.length_append,List.take_append,List.take_of_length_le (by omega),show (rcd k p).length+r.length - (ld s' r).2.1 - (rcd k p).length=r.length - (ld s' r).2.1 by omega]
      rw [this]
      exact .cons hl.2.1 h2 i1
termination_by s b=>b.length
decreasing_by omega
def SOk (s:Strm):Prop:=s.gone.length=s.l.length∧s.l.length≤65536
theorem zfm {s s':Strm} {k:BitVec 8} {p:By} (h:zV s k p=some s') (hs:SOk s):SOk s':=by
 unfold zV at h
 split at h
 · split at h
   · split at h
     · rename_i q
       cases h
       have:=q.2.2.2
       unfold zwm at this
       have hl : ∀ n c,(zbI n c).length=n:=fun n c=>by simp [zbI]
       refine⟨?_,?_⟩
       · rw [List.length_append,List.length_append,List.length_replicate,hl,hs.1]
       · rw [List.length_append,hl];exact this
     · cases h
   · cases h
 · split at h
   · unfold zdz at h
     split at h
     · cases h;exact⟨by rw [List.length_set];exact hs.1,hs.2⟩
     · cases h
   · cases h
theorem Log.ok {s t:Strm} {b:By} (h:Log s b t) (hs:SOk s):SOk t:=by
 induction h with
 | nil s=>exact hs
 | cons _ h _ ih=>exact ih (zfm h hs)
theorem zno:SOk z0S:=⟨rfl,by decide⟩
abbrev Sto:=By × Int
noncomputable def lS (d:By):Strm:=(ld z0S d).1
noncomputable def lN (d:By):Nat:=d.length - (ld z0S d).2.1
noncomputable def lE (d:By):Int:=if (ld z0S d).2.2 then 0 else 270
theorem zhE {d:By}:SOk (lS d):=zgt.1.ok zno
theorem zhF {d:By}:lN d≤d.length:=Nat.sub_le _ _
theorem zgu {d:By} {t:Strm} (h:Log z0S d t):lS d=t∧lN d=d.length∧lE d=0:=by
 have:=ztA (b:=[]) h
 rw [List.append_nil,zaQ] at this
 unfold lS lN lE
 rw [this]
 exact⟨rfl,rfl,rfl⟩
def pcl (l:List Rdg):By:=zp6 l.length (pkc l 4)
theorem zam {l:List Rdg} {k:Nat} (h:k < 4):(pkc l 4)[k]?.getD []=rle (zH l k):=by
 simp [pkc,h]
theorem zey {l:List Rdg} {k:Nat}:(rle (zH l k)).length≤2*l.length:=by
 have:=zu0 (b:=zH l k)
 simpa [zH] using this
theorem ziM {l:List Rdg} {k:Nat} : ∀ c∈pkc l k,c.length≤2*l.length:=fun c hc=>by
 simp only [pkc,List.mem_map] at hc
 obtain⟨i,_,rfl⟩:=hc
 exact zey
theorem ziN {l:List Rdg}:(pcl l).length≤18+8*l.length:=by
 have h:pkc l 4=[rle (zH l 0),rle (zH l 1),rle (zH l 2),rle (zH l 3)]:=rfl
 have h0:=zey (l:=l) (k:=0)
 have h1:=zey (l:=l) (k:=1)
 have h2:=zey (l:=l) (k:=2)
 have h3:=zey (l:=l) (k:=3)
 unfold pcl zp6
 rw [h]
 simp only [yh,List.length_append,zC,List.length_nil]
 omega
theorem zk8 {s:Strm} {l:List Rdg} (h0:0 < l.length) (h1:l.length≤4096) (hv : ∀ r∈l,vR r) (hs:s.l.length+l.length≤65536):zV s 1#8 (pcl l)=some ⟨s.l++l,s.gone++List.replicate l.length false⟩:=by
 have hp:zcP (pcl l)=some (l.length,pkc l 4):=zwl (by omega) zbC fun c hc=>by have:=ziM c hc;omega
 have hsn:zkH l.length (fun k=>(pkc l 4)[k]?.getD []):=fun k hk=>by
  dsimp only
  rw [zam hk];exact zkI hv k hk
 have hseg:zbI l.length (fun k=>(pkc l 4)[k]?.getD [])=l:=by
  have:=zeP hv
  unfold zbI at this ⊢
  conv=>rhs;rw [←this]
  apply List.map_congr_left
  intro i _
  simp only [mkR,zam (show 0 < 4 by decide),zam (show 1 < 4 by decide),zam (show 2 < 4 by decide),zam (show 3 < 4 by decide)]
 unfold zV
 rw [if_pos rfl,hp]
 dsimp only
 rw [if_pos ⟨h0,h1,hsn,hs⟩,hseg]
theorem zk9 {s:Strm} {i:Nat} (hi:i < 65536):zV s 2#8 (yD 4 i)=zdz s i:=by
 unfold zV
 rw [if_neg (by decide),if_pos ⟨rfl,zC⟩,zbA (by omega)]
theorem ziO {s:Strm} {i:Nat}:zdz s i=if (yy s i).2=0 then some (yy s i).1 else none:=by
 have hn:nth s.gone i=s.gone[i]?.getD false:=rfl
 by_cases c:i < s.l.length
 · have h1:yy s i=if nth s.gone i then (z0S,120) else (⟨s.l,s.gone.set i true⟩,0):=by
    unfold yy
    rw [if_neg (show ¬ ((i:Int) < 0 ∨ (s.l.length:Int)≤(i:Int)) by omega),Int.toNat_natCast]
   rw [h1,hn]
   unfold zdz
   cases s.gone[i]?.getD false with
   | true=>simp
   | false=>simp [c]
 · have h1:yy s i=(z0S,4):=by unfold yy;rw [if_pos (.inr (by omega))]
   rw [h1]
   unfold zdz
   rw [if_neg (fun e=>c e.1),if_neg (by decide)]
open Classical in
noncomputable def zbr (s:Sto) (l:List Rdg):Sto × Int :=
 if l.length < 1 ∨ 4096 < l.length ∨ ¬ ∀ r∈l,vR r then (([],0),1)
 else if 65536 < (lS s.1).l.length+l.length then (([],0),2)
 else ((s.1.take (lN s.1)++rcd 1#8 (pcl l),min s.2 (lN s.1)),0)
noncomputable def rtV (s:Sto) (i:Int):Sto × Int :=
 if (yy (lS s.1) i).2≠0 then (([],0),(yy (lS s.1) i).2)
 else ((s.1.take (lN s.1)++rcd 2#8 (yD 4 i.toNat),min s.2 (lN s.1)),0)
end Go.Proofs.YtdpfkanfahchjaaDoor

/-
  The log of readings: Load,by the program.
-/
namespace Go.Proofs.YtdpfkanfahchjaaDoor
open Go Go.AL

def bev (x:BitVec 8):Value := .int .u8 x.toNat
def okB (_:BitVec 8):Prop:=True
def fev (i:FuncId):AV := .clo i [] []
def zez:List (BitVec 8 × FuncId):=[(1#8,61),(2#8,63)]
theorem prsMap:MapT Tryd.prog 75 b8 bev okB fev (.p (.s .nilFunc)) where
 ty:=⟨_,_,Tryd.underlying75,zvA,fun k _=>by
  unfold keyOf
  simp only [Tryd.underlying5,mapKey,bev]
  have:=k.isLt
  rw [if_pos ⟨trivial,by
   simp only [Lit.wf,Bool.and_eq_true,decide_eq_true_eq]
   exact⟨by show (0:Int)≤_;omega,by show _≤(255:Int);omega⟩⟩]
  rfl,zkv⟩
 val k:=rfl
 inj a b _ _ h:=by
  unfold bev at h
  simp only [Value.int.injEq,true_and] at h
  exact BitVec.eq_of_toNat_eq (by omega)
def zxw:Option AV → Option AV → Option AV → Option AV
 | some x,some y,some z=>some (.tup [x,y,z])
 | _,_,_=>none
theorem zqo {x y z:AV}:zxw (some x) (some y) (some z)=some (.tup [x,y,z]):=rfl
theorem ztW {P:Program} {a t u:Nat} {ty:TypeId} {env:Env} {H:Hp}:zc8 P [.cell a ty,.tmp t,.tmp u] env H=zxw (zaS P H ty (env a)) (some (env t)) (some (env u)):=by
 simp only [zc8,zaX,zb9]
 cases zaS P H ty (env a)<;>rfl
attribute [go_sem] ztW zqo
theorem ziP:zaV .nilFunc = .p (.s .nilFunc):=rfl
attribute [go_sem] ziP
theorem zX {n:Nat} {B H:Hp} (h:B.trunc n=H.trunc n) (hb:Bel n H):Bel n B:=fun b x hbn hx y hy=>by
 have h1:(B.trunc n).f b=(H.trunc n).f b:=by rw [h]
 simp only [Hp.trunc,hbn,if_true] at h1
 exact hb b x hbn (by rw [←h1];exact hx) y hy
theorem zeg {C:Cx} {todo:List Item} {env:Env} {B:Hp} {R:AV → Hp → Prop} (c α β:Nat) (l:List Rdg) (g:List Bool) (hc:B.f c=some (.cells [.vr α l.length 4,.vr β g.length 1])) (hα:B.f α=some (.vec (rcl l))) (hβ:B.f β=some (.vec (cl bo g))) (hαβ:α≠β) (h1:c≠α) (h2:c≠β)
 (h : ∀ B',B'.n=B.n → B'.f c=some (.cells [.p (.sl false 4 (pl zv l)),.p (.sl false 1 (pl bo g))]) → (∀ b,b≠c → b≠α → b≠β → B'.f b=B.f b) → (∀ n,n≤c → n≤α → n≤β → B'.trunc n=B.trunc n) → ARun C todo env B' R):ARun C todo env B R:=by
 have hcn:=Hp.lt hc
 have hαn:=Hp.lt hα
 have hβn:=Hp.lt hβ
 refine .frzCell c 0 α (x := .vr α l.length 4) (y := .p (.sl false 4 (pl zv l))) hc rfl h1 (fun σ w v hr hs=>zkg hr (xs:=pl zv l) (cs:=rcl l) (by rw [hα];rfl) zgq (by rw [yG]) (zoh l) hs) ?_
 have e1:((B.set α .dead).set c (.cells ([AV.vr α l.length 4,AV.vr β g.length 1].set 0 (.p (.sl false 4 (pl zv l)))))).f c=some (.cells [.p (.sl false 4 (pl zv l)),.vr β g.length 1]):=Hp.f_set_self _ _ _ (by rw [Hp.n_set];exact hcn)
 have e2:((B.set α .dead).set c (.cells ([AV.vr α l.length 4,AV.vr β g.length 1].set 0 (.p (.sl false 4 (pl zv l)))))).f β=some (.vec (cl bo g)):=by
  rw [Hp.f_set_ne _ _ _ _ (Ne.symm h2),Hp.f_set_ne _ _ _ _ (Ne.symm hαβ)];exact hβ
 refine .frzCell c 1 β (x := .vr β g.length 1) (y := .p (.sl false 1 (pl bo g))) e1 rfl h2 (fun σ w v hr hs=>zkg hr (xs:=pl bo g) (cs:=cl bo g) (by rw [e2];rfl) (by rw [flat_bo',zf1]) (by rw [yG]) ziD hs) ?_
 refine h _ rfl (Hp.f_set_self _ _ _ (by simp only [Hp.n_set];exact hcn)) (fun b b1 b2 b3 => ?_) (fun n n1 n2 n3 => ?_)
 · rw [Hp.f_set_ne _ _ _ _ b1,Hp.f_set_ne _ _ _ _ b3,Hp.f_set_ne _ _ _ _ b1,Hp.f_set_ne _ _ _ _ b2]
 · refine Hp.ext (fun b => ?_) rfl
   simp only [Hp.trunc]
   by_cases hb:b < n
   · rw [if_pos hb,if_pos hb,Hp.f_set_ne _ _ _ _ (by omega),Hp.f_set_ne _ _ _ _ (by omega),Hp.f_set_ne _ _ _ _ (by omega),Hp.f_set_ne _ _ _ _ (by omega)]
   · rw [if_neg hb,if_neg hb]
structure LdS where
 B:Hp
 s:Strm
 α:Nat
 β:Nat
 b:By
structure LQ (H:Hp) (d:By) (s0:Int) (x:LdS):Prop where
 n:H.n+6≤x.B.n
 f1:x.B.f H.n=some (.cells [.p (.sl false 1 (pl b8 d)),.p (i64 s0)])
 f2:x.B.f (H.n+1)=some (.cells [.p (.sl true 4 []),.p (.sl true 1 [])])
 f5:x.B.f (H.n+2)=some (.cells [.vr x.α x.s.l.length 4,.vr x.β x.s.gone.length 1])
 fm:x.B.f (H.n+5)=some (.mapB (tm bev fev zez))
 fα:x.B.f x.α=some (.vec (rcl x.s.l))
 fβ:x.B.f x.β=some (.vec (cl bo x.s.gone))
 αβ:x.α≠x.β
 α3:H.n+3≤x.α
 β3:H.n+3≤x.β
 ok:SOk x.s
 ld:ld z0S d=ld x.s x.b
 le:x.b.length≤d.length
 tr:x.B.trunc H.n=H
theorem znp {s s':Strm} {p:By} (h:zV s 2#8 p=some s'):s'.l=s.l:=by
 have h':zV ⟨s.l,s.gone⟩ 2#8 p=some s':=h
 rw [zef] at h'
 split at h'
 · unfold zdz at h'
   split at h'
   · cases h';rfl
   · cases h'
 · cases h'
def LdP (H B:Hp) (s:Strm) (α β:Nat) (k:BitVec 8) (p:By) (x:AV) (H':Hp):Prop :=
 (zV s k p=none ∧ ∃ y T,(∃ u v,zh y=some [u,v])∧x = .tup [y,.p (bo false)]∧H'=app B T) ∨
 ∃ s' γ,zV s k p=some s'∧x = .tup [.agg [.vr α s'.l.length 4,.vr γ s'.gone.length 1],.p (bo true)]∧H'.f α=some (.vec (rcl s'.l))∧H'.f γ=some (.vec (cl bo s'.gone))∧α≠γ∧(γ=β ∨ B.n≤γ) ∧
  (∀ b,b≠α → b≠γ → b < B.n → H'.f b=B.f b)∧B.n≤H'.n∧H'.trunc H.n=H
theorem zbD {H B H':Hp} {d b r:By} {s0:Int} {s s':Strm} {α β γ:Nat} (hQ:LQ H d s0 ⟨B,s,α,β,b⟩) (p1:H'.f α=some (.vec (rcl s'.l))) (p2:H'.f γ=some (.vec (cl bo s'.gone))) (p3:α≠γ) (p4:γ=β ∨ B.n≤γ)
 (p5 : ∀ b,b≠α → b≠γ → b < B.n → H'.f b=B.f b) (p6:B.n≤H'.n) (p7:H'.trunc H.n=H) (hok:SOk s') (hst:ld s b=ld s' r) (hr:r.length≤b.length) :
 LQ H d s0 ⟨(H'.new (.cells [.vr α s'.l.length 4,.vr γ s'.gone.length 1])).set (H.n+2) (.cells [.vr α s'.l.length 4,.vr γ s'.gone.length 1]),s',α,γ,r⟩:=by
 obtain⟨hn,f1,f2,f5,fm,fα,fβ,αβ,α3,β3,ok,hld,hle,tr⟩:=hQ
 dsimp only at hn f1 f2 f5 fm fα fβ αβ α3 β3 ok hld hle tr
 have hα5:α≠H.n+5:=fun e=>by rw [e,fm] at fα;cases fα
 have hβ5:β≠H.n+5:=fun e=>by rw [e,fm] at fβ;cases fβ
 have hγ3:H.n+3≤γ:=by rcases p4 with rfl | h<;>omega
 have hγ5:H.n+5≠γ:=by rcases p4 with rfl | h<;>omega
 have hαn:=Hp.lt p1
 have hγn:=Hp.lt p2
 have old : ∀ b,b≠H.n+2 → b < H'.n → ((H'.new (.cells [.vr α s'.l.length 4,.vr γ s'.gone.length 1])).set (H.n+2) (.cells [.vr α s'.l.length 4,.vr γ s'.gone.length 1])).f b=H'.f b:=fun b h1 h2=>by
  rw [Hp.f_set_ne _ _ _ _ h1,Hp.f_new_old _ _ _ h2]
 refine⟨?_,?_,?_,?_,?_,?_,?_,p3,α3,hγ3,hok,hld.trans hst,by dsimp only;omega,?_⟩<;>dsimp only
 · rw [Hp.n_set,n_new'];omega
 · rw [old _ (by omega) (by omega),p5 _ (by omega) (by omega) (by omega)];exact f1
 · rw [old _ (by omega) (by omega),p5 _ (by omega) (by omega) (by omega)];exact f2
 · exact Hp.f_set_self _ _ _ (by rw [n_new'];omega)
 · rw [old _ (by omega) (by omega),p5 _ (Ne.symm hα5) hγ5 (by omega)];exact fm
 · rw [old _ (by omega) hαn];exact p1
 · rw [old _ (by omega) hγn];exact p2
 · rw [Hp.trunc_set _ _ _ _ (by omega),Hp.trunc_new _ _ _ (by omega)];exact p7
section walks
variable {G:Globs}
theorem ziQ (H:Hp) (R:AV → Hp → Prop) (h:R (.mp H.n) (H.new (.mapB (tm bev fev zez)))):ACall Tryd.prog G 36 [] H R:=by
 have p1 : ∀ (H:Hp) (b:Nat),zhl Tryd.prog H 75 b (some []) (.p (b8 1#8)) (.clo 61 [] [])=some (H.set b (.mapB (tm bev fev [(1#8,61)]))):=fun H b=>prsMap.put (m:=[]) (by simp) trivial
 have p2 : ∀ (H:Hp) (b:Nat),zhl Tryd.prog H 75 b (some (tm bev fev [(1#8,61)])) (.p (b8 2#8)) (.clo 63 [] [])=some (H.set b (.mapB (tm bev fev zez))):=fun H b=>prsMap.put (fun _ _=>trivial) trivial
 refine ACall.of_run (raw:=[]) Tryd.func36 rfl Tryd.ntmps36 (by simp) fun hbel => ?_
 refine .q ?_;refine .text ?_;simp (disch:=first|exact za|fail) only [go_sem,seval,-List.reduceReplicate]
 refine .q ?_;refine .text ?_;simp (disch:=first|exact za|fail) only [go_sem,seval,-List.reduceReplicate,p1,p2]
 refine .q ?_;refine .retKeep Tryd.func36 (by rw [Tryd.results36]) (by simp (disch:=first|exact za|fail) only [go_sem,seval,-List.reduceReplicate];rfl) ?_;(try simp (disch:=first|exact za|fail) only [go_sem,seval,-List.reduceReplicate])
 exact h
set_option maxHeartbeats 4000000 in
set_option maxRecDepth 20000 in
theorem yE (hG0:G 0=some (8,[.agg (pl zy inits)])) (hG1:G 1=some (64,[.agg (pl zy ks)])) (d:By) (s0:Int) (hd:d.length≤140737488353000) (H:Hp) (R:AV → Hp → Prop) (h:R (.tup [.p (yt (lS d)),.p (i64 (lN d:Nat)),.p (i64 (lE d))]) H):ACall Tryd.prog G 11 [.p (sto d s0)] H R:=by
 refine ACall.of_run (raw:=[]) Tryd.func11 rfl Tryd.ntmps11 (by simp) fun hbel => ?_
 refine .q ?_;refine .text ?_;simp (disch:=first|exact za|fail) only [go_sem,seval,-List.reduceReplicate]
 refine .q ?_;refine .text ?_;simp (disch:=first|exact za|fail) only [go_sem,seval,-List.reduceReplicate]
 (repeat refine .z rfl ?_);refine .vecC (H.n+2) 0 (by simp (disch:=first|exact za|fail) only [go_sem,seval,-List.reduceReplicate];rfl) (by rfl) ?_;simp (disch:=first|exact za|fail) only [go_sem,seval,-List.reduceReplicate,List.set_cons_zero]
 (repeat refine .z rfl ?_);refine .vecC (H.n+2) 1 (by simp (disch:=first|exact za|fail) only [go_sem,seval,-List.reduceReplicate];rfl) (by rfl) ?_;simp (disch:=first|exact za|fail) only [go_sem,seval,-List.reduceReplicate,List.set_cons_zero,List.set_cons_succ]
 have hpar : ∀ B:Hp,ACall Tryd.prog G 36 [] B (fun r H'=>r = .mp B.n∧H'=B.new (.mapB (tm bev fev zez))):=fun B=>ziQ B _ ⟨rfl,rfl⟩
 obtain⟨B0,hB0⟩ : ∃ B0,B0=(((((H.new (.cells [.p (.sl false 1 (pl b8 d)),.p (i64 s0)])).new (.cells [.p (.sl true 4 []),.p (.sl true 1 [])])).new (.cells [.vr (H.n+3) 0 4,.vr (H.n+4) 0 1])).new (.vec [])).new (.vec [])).new (.mapB (tm bev fev zez)):=⟨_,rfl⟩
 refine .q ?_;refine .cutH [1,2,5] [(6,.mp (H.n+5)),(7,.p (.sl false 1 (pl b8 d)))] (B0) (fun ihF => ?_) (fun env F => ?_)
 rotate_left 1
 simp (disch:=first|exact za|fail) only [go_sem,seval,-List.reduceReplicate] at F
 rotate_left 1
 · refine .openTr (.one 1 (.fork 0 2 (.lin [2,3,4]) (.lin [0,3,4]))) [0] follows (by kernel_rfl) ?_
   refine zl (.ptr H.n 0) rfl rfl (by simp (disch:=first|exact za|fail) only [go_sem,seval,-List.reduceReplicate]<;>rfl) rfl ?_
   refine And.intro (zet rfl rfl (by simp (disch:=first|exact za|fail) only [go_sem,seval,-List.reduceReplicate]<;>rfl) (by rfl) rfl (hpar _) fun r H' ⟨e1,e2⟩ => ?_) (zl (.p (.sl false 1 (pl b8 d))) rfl rfl (by simp (disch:=first|exact za|fail) only [go_sem,seval,-List.reduceReplicate]<;>rfl) rfl ?_)
   · subst e1 e2
     refine zA [] (by kernel_rfl) ?_
     simp (disch:=first|exact za|fail) only [go_sem,seval,-List.reduceReplicate]
     first | (refine ihF _ _ ?_ ?_) | (refine .z rfl ?_;refine ihF _ _ ?_ ?_) | (refine .z rfl ?_;refine .z rfl ?_;refine ihF _ _ ?_ ?_) | (refine .z rfl ?_;refine .z rfl ?_;refine .z rfl ?_;refine ihF _ _ ?_ ?_)
     · simp (disch:=first|exact za|fail) only [go_sem,seval,-List.reduceReplicate]<;>(repeat' (first | rfl | refine And.intro ?_ ?_))
     · exact hB0.symm
   · refine zA [0] (by kernel_rfl) ?_
     simp (disch:=first|exact za|fail) only [go_sem,seval,-List.reduceReplicate]
     refine CallD.moves (hpar _) fun r H' ⟨e1,e2⟩ => ?_
     subst e1 e2
     simp (disch:=first|exact za|fail) only [go_sem,seval,-List.reduceReplicate]
     first | (refine ihF _ _ ?_ ?_) | (refine .z rfl ?_;refine ihF _ _ ?_ ?_) | (refine .z rfl ?_;refine .z rfl ?_;refine ihF _ _ ?_ ?_) | (refine .z rfl ?_;refine .z rfl ?_;refine .z rfl ?_;refine ihF _ _ ?_ ?_)
     · simp (disch:=first|exact za|fail) only [go_sem,seval,-List.reduceReplicate]<;>(repeat' (first | rfl | refine And.intro ?_ ?_))
     · exact hB0.symm
 · have q0:LQ H d s0 ⟨B0,z0S,H.n+3,H.n+4,d⟩:=by
    subst hB0
    refine⟨?_,?_,?_,?_,?_,?_,?_,by dsimp only;omega,by dsimp only;omega,by dsimp only;omega,zno,rfl,Nat.le_refl _,?_⟩<;>dsimp only
    · exact Nat.le_refl _
    · simp (disch:=first|exact za|fail) only [go_sem,seval,-List.reduceReplicate]
    · simp (disch:=first|exact za|fail) only [go_sem,seval,-List.reduceReplicate]
    · simp (disch:=first|exact za|fail) only [go_sem,seval,-List.reduceReplicate]
      rfl
    · simp (disch:=first|exact za|fail) only [go_sem,seval,-List.reduceReplicate]
    · simp (disch:=first|exact za|fail) only [go_sem,seval,-List.reduceReplicate]
      rfl
    · simp (disch:=first|exact za|fail) only [go_sem,seval,-List.reduceReplicate]
      rfl
    · simp (disch:=first|exact za|fail) only [go_sem,seval,-List.reduceReplicate]
   clear hB0
   refine .q ?_;refine .loopK (S:=LdS) [1,2,5,6] (fun x=>[(7,.p (.sl false 1 (pl b8 x.b)))]) (fun x=>x.B) (fun x=>LQ H d s0 x) (fun x=>x.b.length) (⟨B0,z0S,H.n+3,H.n+4,d⟩) ?_ (by first | rfl | (simp (disch:=first|exact za|fail) only [go_sem,seval,-List.reduceReplicate,F]<;>rfl)) ?_ ?_
   · simp (disch:=first|exact za|fail) only [go_sem,seval,-List.reduceReplicate,F]<;>(repeat' (first | rfl | refine And.intro ?_ ?_))
   rotate_left 1
   intro x env E hQ ihE;simp (disch:=first|exact za|fail) only [go_sem,seval,-List.reduceReplicate,F] at E
   rotate_left 1
   · exact q0
   · obtain⟨B,s,α,β,b⟩:=x
     obtain⟨hn,f1,f2,f5,fm,fα,fβ,αβ,α3,β3,ok,hld,hle,tr⟩:=hQ
     dsimp only at hn f1 f2 f5 fm fα fβ αβ α3 β3 ok hld hle tr E ⊢
     have hQ0:LQ H d s0 ⟨B,s,α,β,b⟩:=⟨hn,f1,f2,f5,fm,fα,fβ,αβ,α3,β3,ok,hld,hle,tr⟩
     have hc1:H.n+2≠α:=by omega
     have hc2:H.n+2≠β:=by omega
     have hbelB:Bel H.n B:=zX (by rw [tr];exact (Hp.trunc_self H).symm) hbel
     have hres : ∀ q,ld s b=q → lS d=q.1∧lN d=d.length - q.2.1∧lE d=if q.2.2 then 0 else 270:=fun q e=>by
      unfold lS lN lE
      rw [hld,e]
      exact⟨rfl,rfl,rfl⟩
     have lk : ∀ k v,zcM k zez=some v → zeM Tryd.prog 75 (some (tm bev fev zez)) (.p (b8 k)) false=some (.clo v [] []):=fun k v e=>by
      have:=prsMap.at (m:=zez) (k:=k) (fun _ _=>trivial) trivial
      rw [e] at this
      exact this
     have lkn : ∀ k,zcM k zez=none → zeM Tryd.prog 75 (some (tm bev fev zez)) (.p (b8 k)) false=some (.p (.s .nilFunc)):=fun k e=>by
      have:=prsMap.at (m:=zez) (k:=k) (fun _ _=>trivial) trivial
      rw [e] at this
      exact this
     have hspec : ∀ p:By,p.length≤1048576 → ∀ k f,zcM k zez=some f → ACall Tryd.prog G f [.agg [.vr α s.l.length 4,.vr β s.gone.length 1],.p (.sl false 1 (pl b8 p))] B (LdP H B s α β k p):=fun p hp k f hf=>by
      have hkf:(k=1#8∧f=61) ∨ (k=2#8∧f=63):=by
       change (if 1#8=k then some 61 else if 2#8=k then some 63 else none)=some f at hf
       split at hf
       · rename_i e;cases hf;exact .inl ⟨e.symm,rfl⟩
       · split at hf
         · rename_i e;cases hf;exact .inr ⟨e.symm,rfl⟩
         · cases hf
      have hαn:=Hp.lt fα
      have hβn:=Hp.lt fβ
      rcases hkf with ⟨rfl,rfl⟩ | ⟨rfl,rfl⟩
      · refine ziK α β αβ s.l s.gone p ok.2 ok.1 hp B fα fβ _ (fun e x T hx => .inl ⟨e,x,T,hx,rfl,rfl⟩) fun s' e T => .inr ⟨s',β,e,rfl,?_,?_,αβ,.inl rfl,fun b h1 h2 h3 => ?_,?_,?_⟩
        · simp (disch:=first|exact za|fail) only [go_sem,seval,-List.reduceReplicate]
        · simp (disch:=first|exact za|fail) only [go_sem,seval,-List.reduceReplicate]
        · rw [zcn (by simp (disch:=first|exact za|fail) only [go_sem,seval,-List.reduceReplicate];exact h3),Hp.f_set_ne _ _ _ _ h2,Hp.f_set_ne _ _ _ _ h1]
        · rw [app_n'];show _≤B.n+_;omega
        · rw [zbT (by simp (disch:=first|exact za|fail) only [go_sem,seval,-List.reduceReplicate];omega)];simp (disch:=first|exact za|fail) only [go_sem,seval,-List.reduceReplicate];exact tr
      · refine ziL α β s.l s.gone p ok.2 ok.1 B fα fβ _ (fun e x T hx => .inl ⟨e,x,T,hx,rfl,rfl⟩) fun s' e γ T h1 h2 h3 => .inr ⟨s',γ,e,rfl,?_,h3,by omega,.inr h1,fun b h1 h2 h3 => ?_,?_,?_⟩
        · rw [zcn hαn,fα,znp e]
        · exact zcn h3
        · rw [app_n'];omega
        · rw [zbT (by omega)];exact tr
     have hft:zb2 Tryd.prog 79=true:=by kernel_rfl
     by_cases c0:b.length=0
     · have d0:decide ((0:Int) < (b.length:Int))=false:=decide_eq_false (by omega)
       have hb0:b=[]:=List.eq_nil_of_length_eq_zero c0
       refine .q ?_;refine .text ?_;simp (disch:=first|exact za|fail) only [go_sem,seval,-List.reduceReplicate,E,F,d0]
       refine .q ?_;refine .ifF (by simp (disch:=first|exact za|fail) only [go_sem,seval,-List.reduceReplicate]) ?_
       subst hb0
       have hl:ld s []=(s,0,true):=zaQ
       rw [(hres _ hl).1,(hres _ hl).2.1,(hres _ hl).2.2,if_pos rfl,Nat.sub_zero] at h
       refine .q ?_;refine zeg (H.n+2) α β s.l s.gone f5 fα fβ αβ hc1 hc2 fun B' b1 b2 b3 b4 => ?_
       have g1:B'.f H.n=some (.cells [.p (.sl false 1 (pl b8 d)),.p (i64 s0)]):=(b3 _ (by omega) (by omega) (by omega)).trans f1
       have g2:B'.f (H.n+1)=some (.cells [.p (.sl true 4 []),.p (.sl true 1 [])]):=(b3 _ (by omega) (by omega) (by omega)).trans f2
       have tr':B'.trunc H.n=H:=(b4 _ (by omega) (by omega) (by omega)).trans tr
       have hbel:Bel H.n B':=zX (by rw [tr'];exact (Hp.trunc_self H).symm) hbel
       have hn':H.n+1 < B'.n:=by rw [b1];exact (by omega)
       have hs0:B'.set (H.n+1) (.cells [.p (.sl true 4 []),.p (.sl true 1 [])])=B':=Hp.set_same _ _ _ g2
       (refine .q ?_)
       refine .openInv (fun L env' H'=>kF env' [(1,.ptr H.n 0),(2,.ptr (H.n+1) 0),(5,.ptr (H.n+2) 0)]∧kI L env' [(0,61,.p (.agg [.sl false 4 (pl zv s.l),.sl false 1 (pl bo s.gone)])),(1,62,.ptr H.n 0),(2,63,.p (.sl false 1 (pl b8 d))),(3,64,.p (i64 d.length)),(5,3,.p (i64 d.length)),(6,4,.p (i64 0))]∧(L 4=true → allT L [0])∧H'=(B'.set (H.n+1) (.cells (if L 4 then [.p (.sl false 4 (pl zv s.l)),.p (.sl false 1 (pl bo s.gone))] else [.p (.sl true 4 []),.p (.sl true 1 [])])))) follows (by kernel_rfl) ?_ ?_ ?_
       · exact⟨(by simp (disch:=first|exact za|fail) only [go_sem,seval,-List.reduceReplicate,kFi,kFn,and_self,E,F,g1,g2,b2,b1,hs0]),(fun _ _ h=>by cases h),(fun h=>by cases h),(by first | rfl | (simp only [Bool.false_eq_true,if_false];first | rfl | (simp (disch:=first|exact za|fail) only [go_sem,seval,-List.reduceReplicate,E,F,g1,g2,b2,b1,hs0]<;>rfl)))⟩
       · intro i o L env' H' ho hL hall hI
         obtain⟨KF,KG,m4,rfl⟩:=hI
         rcases i with _ | _ | _ | _ | _ | _ | _ | i
         · cases ho;have n4:=nfT m4 hL;have f2:=kFg KF 2 rfl;refine zg (.p (.agg [.sl false 4 (pl zv s.l),.sl false 1 (pl bo s.gone)])) rfl rfl (by simp (disch:=first|exact za|fail) only [go_sem,seval,-List.reduceReplicate,reduceIte,Bool.false_eq_true,if_false,if_true,f2,n4,hL,g1,g2,b2,b1,hs0]<;>rfl) rfl ?_;exact⟨yp KF,yq KG,ka m4,(by rw [zb (by decide)])⟩
         · cases ho;have f0:=kFg KF 0 rfl;refine zg (.ptr H.n 0) rfl rfl (by simp (disch:=first|exact za|fail) only [go_sem,seval,-List.reduceReplicate,f0,g1,g2,b2,b1,hs0]<;>rfl) rfl ?_;exact⟨yp KF,yq KG,ka m4,(by rw [zb (by decide)])⟩
         · cases ho;have d1:=z5 KG 1 rfl (kL hall 0 rfl rfl);refine zg (.p (.sl false 1 (pl b8 d))) rfl rfl (by simp (disch:=first|exact za|fail) only [go_sem,seval,-List.reduceReplicate,d1,g1,g2,b2,b1,hs0]<;>rfl) rfl ?_;exact⟨yp KF,yq KG,ka m4,(by rw [zb (by decide)])⟩
         · cases ho;have d2:=z5 KG 2 rfl (kL hall 0 rfl rfl);refine zg (.p (i64 d.length)) rfl rfl (by simp (disch:=first|exact za|fail) only [go_sem,seval,-List.reduceReplicate,d2,g1,g2,b2,b1,hs0]<;>rfl) rfl ?_;exact⟨yp KF,yq KG,ka m4,(by rw [zb (by decide)])⟩
         · cases ho;have h0:=kL hall 0 rfl rfl;have d0:=z5 KG 0 rfl h0;have f1:=kFg KF 1 rfl;refine zbl rfl rfl (by simp (disch:=first|exact za|fail) only [go_sem,seval,-List.reduceReplicate,reduceIte,Bool.false_eq_true,if_false,if_true,f1,d0,hL,g1,g2,b2,b1,hs0]<;>rfl) rfl ?_;exact⟨KF,kIs KG,(fun _=>kt (zi h0 yB)),(by (have e4:more L 4 4=true:=yX);(try simp only [e4,hL]);first | done | rfl | (simp only [e4,hL,if_true,if_false,Bool.false_eq_true];first | done | rfl | (simp (disch:=first|exact za|fail) only [go_sem,seval,-List.reduceReplicate,e4,hL,g1,g2,b2,b1,hs0]<;>rfl)))⟩
         · cases ho;have d3:=z5 KG 3 rfl (kL hall 0 rfl rfl);refine zg (.p (i64 d.length)) rfl rfl (by simp (disch:=first|exact za|fail) only [go_sem,seval,-List.reduceReplicate,d3,g1,g2,b2,b1,hs0]<;>rfl) rfl ?_;exact⟨yp KF,yq KG,ka m4,(by rw [zb (by decide)])⟩
         · cases ho;refine zg (.p (i64 0)) rfl rfl (by simp (disch:=first|exact za|fail) only [go_sem,seval,-List.reduceReplicate,g1,g2,b2,b1,hs0]<;>rfl) rfl ?_;exact⟨yp KF,yq KG,ka m4,(by rw [zb (by decide)])⟩
         · simp at ho
       · intro L env' H' hall hI
         obtain⟨KF,KG,_,rfl⟩:=hI
         have l4:=hall 4 (by decide)
         have f0:=kFg KF 0 rfl
         have f1:=kFg KF 1 rfl
         have f2:=kFg KF 2 rfl
         have g1:=z5 KG 1 rfl (hall 1 (by decide))
         have g2:=z5 KG 2 rfl (hall 2 (by decide))
         have g5:=z5 KG 4 rfl (hall 5 (by decide))
         have g6:=z5 KG 5 rfl (hall 6 (by decide))
         simp only [l4,if_true]
         clear hall
         refine .q ?_;refine .rt Tryd.func11 (by rw [Tryd.results11]) (hx:=by simp (disch:=first|exact za|fail) only [go_sem,seval,-List.reduceReplicate,f1,g5,g6,tr'];rfl) (hR := ?_);simp (disch:=first|exact za|fail) only [go_sem,seval,-List.reduceReplicate,f1,g5,g6,tr']
         exact h
     · have d0:decide ((0:Int) < (b.length:Int))=true:=decide_eq_true (by omega)
       refine .q ?_;refine .text ?_;simp (disch:=first|exact za|fail) only [go_sem,seval,-List.reduceReplicate,E,F,d0]
       refine .q ?_;refine .ifT (by simp (disch:=first|exact za|fail) only [go_sem,seval,-List.reduceReplicate]) ?_
       refine .q ?_;refine .text ?_;simp (disch:=first|exact za|fail) only [go_sem,seval,-List.reduceReplicate,E,F]
       refine CallK.of (fun R h=>znk hG0 hG1 b (by omega) _ R h) ?_;simp (disch:=first|exact za|fail) only [go_sem,seval,-List.reduceReplicate,E,F]
       have hdi:((d.length - b.length:Nat):Int)=(d.length:Int) - (b.length:Int):=by omega
       cases hs:spl b with
       | none =>
        have hv:zgX b=((0#8,[],[]),false):=by rw [zgX,hs]
        have lk0:=lkn 0#8 rfl
        have hl:ld s b=(s,b.length,false):=zbB c0 hs
        rw [(hres _ hl).1,(hres _ hl).2.1,(hres _ hl).2.2,if_neg (by exact Bool.false_ne_true),hdi] at h
        rw [hv]
        refine .q ?_;refine .text ?_;simp (disch:=first|exact za|fail) only [go_sem,seval,-List.reduceReplicate,E,F,fm,lk0]
        refine .q ?_;refine .text ?_;simp (disch:=first|exact za|fail) only [go_sem,seval,-List.reduceReplicate,E,F]
        refine .q ?_;refine .ifT (by simp (disch:=first|exact za|fail) only [go_sem,seval,-List.reduceReplicate]) ?_
        refine .q ?_;refine zeg (H.n+2) α β s.l s.gone f5 fα fβ αβ hc1 hc2 fun B' b1 b2 b3 b4 => ?_
        have g1:B'.f H.n=some (.cells [.p (.sl false 1 (pl b8 d)),.p (i64 s0)]):=(b3 _ (by omega) (by omega) (by omega)).trans f1
        have g2:B'.f (H.n+1)=some (.cells [.p (.sl true 4 []),.p (.sl true 1 [])]):=(b3 _ (by omega) (by omega) (by omega)).trans f2
        have tr':B'.trunc H.n=H:=(b4 _ (by omega) (by omega) (by omega)).trans tr
        have hbel:Bel H.n B':=zX (by rw [tr'];exact (Hp.trunc_self H).symm) hbel
        have hn':H.n+1 < B'.n:=by rw [b1];exact (by omega)
        have hs0:B'.set (H.n+1) (.cells [.p (.sl true 4 []),.p (.sl true 1 [])])=B':=Hp.set_same _ _ _ g2
        (refine .q ?_)
        refine .openInv (fun L env' H'=>kF env' [(1,.ptr H.n 0),(2,.ptr (H.n+1) 0),(5,.ptr (H.n+2) 0),(7,.p (.sl false 1 (pl b8 b)))]∧kI L env' [(0,36,.p (.agg [.sl false 4 (pl zv s.l),.sl false 1 (pl bo s.gone)])),(1,37,.ptr H.n 0),(2,38,.p (.sl false 1 (pl b8 d))),(3,39,.p (i64 d.length)),(4,40,.p (.sl false 1 (pl b8 b))),(5,41,.p (i64 b.length)),(6,42,.p (i64 ((d.length:Int) - (b.length:Int)))),(8,3,.p (i64 ((d.length:Int) - (b.length:Int)))),(9,4,.p (i64 270))]∧(L 7=true → allT L [0])∧H'=(B'.set (H.n+1) (.cells (if L 7 then [.p (.sl false 4 (pl zv s.l)),.p (.sl false 1 (pl bo s.gone))] else [.p (.sl true 4 []),.p (.sl true 1 [])])))) follows (by kernel_rfl) ?_ ?_ ?_
        · exact⟨(by simp (disch:=first|exact za|fail) only [go_sem,seval,-List.reduceReplicate,kFi,kFn,and_self,E,F,g1,g2,b2,b1,hs0]),(fun _ _ h=>by cases h),(fun h=>by cases h),(by first | rfl | (simp only [Bool.false_eq_true,if_false];first | rfl | (simp (disch:=first|exact za|fail) only [go_sem,seval,-List.reduceReplicate,E,F,g1,g2,b2,b1,hs0]<;>rfl)))⟩
        · intro i o L env' H' ho hL hall hI
          obtain⟨KF,KG,m7,rfl⟩:=hI
          rcases i with _ | _ | _ | _ | _ | _ | _ | _ | _ | _ | i
          · cases ho;have n7:=nfT m7 hL;have f2:=kFg KF 2 rfl;refine zg (.p (.agg [.sl false 4 (pl zv s.l),.sl false 1 (pl bo s.gone)])) rfl rfl (by simp (disch:=first|exact za|fail) only [go_sem,seval,-List.reduceReplicate,reduceIte,Bool.false_eq_true,if_false,if_true,f2,n7,hL,g1,g2,b2,b1,hs0]<;>rfl) rfl ?_;exact⟨yp KF,yq KG,ka m7,(by rw [zb (by decide)])⟩
          · cases ho;have f0:=kFg KF 0 rfl;refine zg (.ptr H.n 0) rfl rfl (by simp (disch:=first|exact za|fail) only [go_sem,seval,-List.reduceReplicate,f0,g1,g2,b2,b1,hs0]<;>rfl) rfl ?_;exact⟨yp KF,yq KG,ka m7,(by rw [zb (by decide)])⟩
          · cases ho;have d1:=z5 KG 1 rfl (kL hall 0 rfl rfl);refine zg (.p (.sl false 1 (pl b8 d))) rfl rfl (by simp (disch:=first|exact za|fail) only [go_sem,seval,-List.reduceReplicate,d1,g1,g2,b2,b1,hs0]<;>rfl) rfl ?_;exact⟨yp KF,yq KG,ka m7,(by rw [zb (by decide)])⟩
          · cases ho;have d2:=z5 KG 2 rfl (kL hall 0 rfl rfl);refine zg (.p (i64 d.length)) rfl rfl (by simp (disch:=first|exact za|fail) only [go_sem,seval,-List.reduceReplicate,d2,g1,g2,b2,b1,hs0]<;>rfl) rfl ?_;exact⟨yp KF,yq KG,ka m7,(by rw [zb (by decide)])⟩
          · cases ho;have f3:=kFg KF 3 rfl;refine zg (.p (.sl false 1 (pl b8 b))) rfl rfl (by simp (disch:=first|exact za|fail) only [go_sem,seval,-List.reduceReplicate,f3,g1,g2,b2,b1,hs0]<;>rfl) rfl ?_;exact⟨yp KF,yq KG,ka m7,(by rw [zb (by decide)])⟩
          · cases ho;have d4:=z5 KG 4 rfl (kL hall 0 rfl rfl);refine zg (.p (i64 b.length)) rfl rfl (by simp (disch:=first|exact za|fail) only [go_sem,seval,-List.reduceReplicate,d4,g1,g2,b2,b1,hs0]<;>rfl) rfl ?_;exact⟨yp KF,yq KG,ka m7,(by rw [zb (by decide)])⟩
          · cases ho;have d3:=z5 KG 3 rfl (kL hall 0 rfl rfl);have d5:=z5 KG 5 rfl (kL hall 1 rfl rfl);refine zg (.p (i64 ((d.length:Int) - (b.length:Int)))) rfl rfl (by simp (disch:=first|exact za|fail) only [go_sem,seval,-List.reduceReplicate,d3,d5,g1,g2,b2,b1,hs0]<;>rfl) rfl ?_;exact⟨yp KF,yq KG,ka m7,(by rw [zb (by decide)])⟩
          · cases ho;have h0:=kL hall 0 rfl rfl;have d0:=z5 KG 0 rfl h0;have f1:=kFg KF 1 rfl;refine zbl rfl rfl (by simp (disch:=first|exact za|fail) only [go_sem,seval,-List.reduceReplicate,reduceIte,Bool.false_eq_true,if_false,if_true,f1,d0,hL,g1,g2,b2,b1,hs0]<;>rfl) rfl ?_;exact⟨KF,kIs KG,(fun _=>kt (zi h0 yB)),(by (have e7:more L 7 7=true:=yX);(try simp only [e7,hL]);first | done | rfl | (simp only [e7,hL,if_true,if_false,Bool.false_eq_true];first | done | rfl | (simp (disch:=first|exact za|fail) only [go_sem,seval,-List.reduceReplicate,e7,hL,g1,g2,b2,b1,hs0]<;>rfl)))⟩
          · cases ho;have d6:=z5 KG 6 rfl (kL hall 0 rfl rfl);refine zg (.p (i64 ((d.length:Int) - (b.length:Int)))) rfl rfl (by simp (disch:=first|exact za|fail) only [go_sem,seval,-List.reduceReplicate,d6,g1,g2,b2,b1,hs0]<;>rfl) rfl ?_;exact⟨yp KF,yq KG,ka m7,(by rw [zb (by decide)])⟩
          · cases ho;refine zg (.p (i64 270)) rfl rfl (by simp (disch:=first|exact za|fail) only [go_sem,seval,-List.reduceReplicate,g1,g2,b2,b1,hs0]<;>rfl) rfl ?_;exact⟨yp KF,yq KG,ka m7,(by rw [zb (by decide)])⟩
          · simp at ho
        · intro L env' H' hall hI
          obtain⟨KF,KG,_,rfl⟩:=hI
          have l7:=hall 7 (by decide)
          have f0:=kFg KF 0 rfl
          have f1:=kFg KF 1 rfl
          have f2:=kFg KF 2 rfl
          have f3:=kFg KF 3 rfl
          have g1:=z5 KG 1 rfl (hall 1 (by decide))
          have g2:=z5 KG 2 rfl (hall 2 (by decide))
          have g8:=z5 KG 7 rfl (hall 8 (by decide))
          have g9:=z5 KG 8 rfl (hall 9 (by decide))
          simp only [l7,if_true]
          clear hall
          refine .q ?_;refine .rt Tryd.func11 (by rw [Tryd.results11]) (hx:=by simp (disch:=first|exact za|fail) only [go_sem,seval,-List.reduceReplicate,f1,g8,g9,tr'];rfl) (hR := ?_);simp (disch:=first|exact za|fail) only [go_sem,seval,-List.reduceReplicate,f1,g8,g9,tr']
          exact h
       | some q =>
        obtain⟨k,p,r⟩:=q
        have hv:zgX b=((k,p,r),true):=by rw [zgX,hs]
        have hpl:=zaC hs
        rw [hv]
        by_cases k1:k=1#8
        · subst k1
          have lk1:=lk 1#8 _ rfl
          refine .q ?_;refine .text ?_;simp (disch:=first|exact za|fail) only [go_sem,seval,-List.reduceReplicate,E,F,fm,lk1]
          refine .q ?_;refine .text ?_;simp (disch:=first|exact za|fail) only [go_sem,seval,-List.reduceReplicate,E,F,zdP,hft]
          refine .q ?_;refine .ifF (by simp (disch:=first|exact za|fail) only [go_sem,seval,-List.reduceReplicate]) ?_
          refine .skip ?_
          refine .q ?_;refine .text ?_;simp (disch:=first|exact za|fail) only [go_sem,seval,-List.reduceReplicate,E,F,f5]
          refine CallK.ex (hspec p hpl.2.1 1#8 _ rfl) fun y H' hy => ?_
          rcases hy with ⟨hpn,y',T,⟨u,v,huv⟩,rfl,rfl⟩ | ⟨s',γ,hps,rfl,p1,p2,p3,p4,p5,p6,p7⟩
          · have hX : ∀ x b,b < B.n → ((app B T).new x).f b=B.f b:=fun x b hb=>by rw [Hp.f_new_old _ _ _ (by rw [app_n'];omega),zcn hb]
            have hXt : ∀ x,((app B T).new x).trunc H.n=H:=fun x=>by rw [Hp.trunc_new _ _ _ (by rw [app_n'];omega),zbT (by omega)];exact tr
            have hXn : ∀ x,H.n+1 < ((app B T).new x).n:=fun x=>by rw [n_new',app_n'];omega
            have hl:ld s b=(s,b.length,false):=zdA hs hpn
            rw [(hres _ hl).1,(hres _ hl).2.1,(hres _ hl).2.2,if_neg (by exact Bool.false_ne_true),hdi] at h
            have hαn:=Hp.lt fα
            have hβn:=Hp.lt fβ
            simp (disch:=first|exact za|fail) only [go_sem,seval,-List.reduceReplicate,E,F,huv]
            refine .q ?_;refine .text ?_;simp (disch:=first|exact za|fail) only [go_sem,seval,-List.reduceReplicate,E,F]
            refine .q ?_;refine .ifT (by simp (disch:=first|exact za|fail) only [go_sem,seval,-List.reduceReplicate]) ?_
            refine .q ?_;refine zeg (H.n+2) α β s.l s.gone ((hX _ _ (by omega)).trans f5) ((hX _ _ hαn).trans fα) ((hX _ _ hβn).trans fβ) αβ hc1 hc2 fun B' b1 b2 b3 b4 => ?_
            have g1:B'.f H.n=some (.cells [.p (.sl false 1 (pl b8 d)),.p (i64 s0)]):=(b3 _ (by omega) (by omega) (by omega)).trans ((hX _ _ (by omega)).trans f1)
            have g2:B'.f (H.n+1)=some (.cells [.p (.sl true 4 []),.p (.sl true 1 [])]):=(b3 _ (by omega) (by omega) (by omega)).trans ((hX _ _ (by omega)).trans f2)
            have tr':B'.trunc H.n=H:=(b4 _ (by omega) (by omega) (by omega)).trans (hXt _)
            have hbel:Bel H.n B':=zX (by rw [tr'];exact (Hp.trunc_self H).symm) hbel
            have hn':H.n+1 < B'.n:=by rw [b1];exact hXn _
            have hs0:B'.set (H.n+1) (.cells [.p (.sl true 4 []),.p (.sl true 1 [])])=B':=Hp.set_same _ _ _ g2
            (refine .q ?_)
            refine .openInv (fun L env' H'=>kF env' [(1,.ptr H.n 0),(2,.ptr (H.n+1) 0),(5,.ptr (H.n+2) 0),(7,.p (.sl false 1 (pl b8 b)))]∧kI L env' [(0,52,.p (.agg [.sl false 4 (pl zv s.l),.sl false 1 (pl bo s.gone)])),(1,53,.ptr H.n 0),(2,54,.p (.sl false 1 (pl b8 d))),(3,55,.p (i64 d.length)),(4,56,.p (.sl false 1 (pl b8 b))),(5,57,.p (i64 b.length)),(6,58,.p (i64 ((d.length:Int) - (b.length:Int)))),(8,3,.p (i64 ((d.length:Int) - (b.length:Int)))),(9,4,.p (i64 270))]∧(L 7=true → allT L [0])∧H'=(B'.set (H.n+1) (.cells (if L 7 then [.p (.sl false 4 (pl zv s.l)),.p (.sl false 1 (pl bo s.gone))] else [.p (.sl true 4 []),.p (.sl true 1 [])])))) follows (by kernel_rfl) ?_ ?_ ?_
            · exact⟨(by simp (disch:=first|exact za|fail) only [go_sem,seval,-List.reduceReplicate,kFi,kFn,and_self,E,F,g1,g2,b2,b1,hs0]),(fun _ _ h=>by cases h),(fun h=>by cases h),(by first | rfl | (simp only [Bool.false_eq_true,if_false];first | rfl | (simp (disch:=first|exact za|fail) only [go_sem,seval,-List.reduceReplicate,E,F,g1,g2,b2,b1,hs0]<;>rfl)))⟩
            · intro i o L env' H' ho hL hall hI
              obtain⟨KF,KG,m7,rfl⟩:=hI
              rcases i with _ | _ | _ | _ | _ | _ | _ | _ | _ | _ | i
              · cases ho;have n7:=nfT m7 hL;have f2:=kFg KF 2 rfl;refine zg (.p (.agg [.sl false 4 (pl zv s.l),.sl false 1 (pl bo s.gone)])) rfl rfl (by simp (disch:=first|exact za|fail) only [go_sem,seval,-List.reduceReplicate,reduceIte,Bool.false_eq_true,if_false,if_true,f2,n7,hL,g1,g2,b2,b1,hs0]<;>rfl) rfl ?_;exact⟨yp KF,yq KG,ka m7,(by rw [zb (by decide)])⟩
              · cases ho;have f0:=kFg KF 0 rfl;refine zg (.ptr H.n 0) rfl rfl (by simp (disch:=first|exact za|fail) only [go_sem,seval,-List.reduceReplicate,f0,g1,g2,b2,b1,hs0]<;>rfl) rfl ?_;exact⟨yp KF,yq KG,ka m7,(by rw [zb (by decide)])⟩
              · cases ho;have d1:=z5 KG 1 rfl (kL hall 0 rfl rfl);refine zg (.p (.sl false 1 (pl b8 d))) rfl rfl (by simp (disch:=first|exact za|fail) only [go_sem,seval,-List.reduceReplicate,d1,g1,g2,b2,b1,hs0]<;>rfl) rfl ?_;exact⟨yp KF,yq KG,ka m7,(by rw [zb (by decide)])⟩
              · cases ho;have d2:=z5 KG 2 rfl (kL hall 0 rfl rfl);refine zg (.p (i64 d.length)) rfl rfl (by simp (disch:=first|exact za|fail) only [go_sem,seval,-List.reduceReplicate,d2,g1,g2,b2,b1,hs0]<;>rfl) rfl ?_;exact⟨yp KF,yq KG,ka m7,(by rw [zb (by decide)])⟩
              · cases ho;have f3:=kFg KF 3 rfl;refine zg (.p (.sl false 1 (pl b8 b))) rfl rfl (by simp (disch:=first|exact za|fail) only [go_sem,seval,-List.reduceReplicate,f3,g1,g2,b2,b1,hs0]<;>rfl) rfl ?_;exact⟨yp KF,yq KG,ka m7,(by rw [zb (by decide)])⟩
              · cases ho;have d4:=z5 KG 4 rfl (kL hall 0 rfl rfl);refine zg (.p (i64 b.length)) rfl rfl (by simp (disch:=first|exact za|fail) only [go_sem,seval,-List.reduceReplicate,d4,g1,g2,b2,b1,hs0]<;>rfl) rfl ?_;exact⟨yp KF,yq KG,ka m7,(by rw [zb (by decide)])⟩
              · cases ho;have d3:=z5 KG 3 rfl (kL hall 0 rfl rfl);have d5:=z5 KG 5 rfl (kL hall 1 rfl rfl);refine zg (.p (i64 ((d.length:Int) - (b.length:Int)))) rfl rfl (by simp (disch:=first|exact za|fail) only [go_sem,seval,-List.reduceReplicate,d3,d5,g1,g2,b2,b1,hs0]<;>rfl) rfl ?_;exact⟨yp KF,yq KG,ka m7,(by rw [zb (by decide)])⟩
              · cases ho;have h0:=kL hall 0 rfl rfl;have d0:=z5 KG 0 rfl h0;have f1:=kFg KF 1 rfl;refine zbl rfl rfl (by simp (disch:=first|exact za|fail) only [go_sem,seval,-List.reduceReplicate,reduceIte,Bool.false_eq_true,if_false,if_true,f1,d0,hL,g1,g2,b2,b1,hs0]<;>rfl) rfl ?_;exact⟨KF,kIs KG,(fun _=>kt (zi h0 yB)),(by (have e7:more L 7 7=true:=yX);(try simp only [e7,hL]);first | done | rfl | (simp only [e7,hL,if_true,if_false,Bool.false_eq_true];first | done | rfl | (simp (disch:=first|exact za|fail) only [go_sem,seval,-List.reduceReplicate,e7,hL,g1,g2,b2,b1,hs0]<;>rfl)))⟩
              · cases ho;have d6:=z5 KG 6 rfl (kL hall 0 rfl rfl);refine zg (.p (i64 ((d.length:Int) - (b.length:Int)))) rfl rfl (by simp (disch:=first|exact za|fail) only [go_sem,seval,-List.reduceReplicate,d6,g1,g2,b2,b1,hs0]<;>rfl) rfl ?_;exact⟨yp KF,yq KG,ka m7,(by rw [zb (by decide)])⟩
              · cases ho;refine zg (.p (i64 270)) rfl rfl (by simp (disch:=first|exact za|fail) only [go_sem,seval,-List.reduceReplicate,g1,g2,b2,b1,hs0]<;>rfl) rfl ?_;exact⟨yp KF,yq KG,ka m7,(by rw [zb (by decide)])⟩
              · simp at ho
            · intro L env' H' hall hI
              obtain⟨KF,KG,_,rfl⟩:=hI
              have l7:=hall 7 (by decide)
              have f0:=kFg KF 0 rfl
              have f1:=kFg KF 1 rfl
              have f2:=kFg KF 2 rfl
              have f3:=kFg KF 3 rfl
              have g1:=z5 KG 1 rfl (hall 1 (by decide))
              have g2:=z5 KG 2 rfl (hall 2 (by decide))
              have g8:=z5 KG 7 rfl (hall 8 (by decide))
              have g9:=z5 KG 8 rfl (hall 9 (by decide))
              simp only [l7,if_true]
              clear hall
              refine .q ?_;refine .rt Tryd.func11 (by rw [Tryd.results11]) (hx:=by simp (disch:=first|exact za|fail) only [go_sem,seval,-List.reduceReplicate,f1,g8,g9,tr'];rfl) (hR := ?_);simp (disch:=first|exact za|fail) only [go_sem,seval,-List.reduceReplicate,f1,g8,g9,tr']
              exact h
          · have hstep:ld s b=ld s' r:=za0 hs hps
            have hok:=zfm hps ok
            have q5:H'.f (H.n+2)=some (.cells [.vr α s.l.length 4,.vr β s.gone.length 1]):=(p5 _ (by omega) (by omega) (by omega)).trans f5
            simp (disch:=first|exact za|fail) only [go_sem,seval,-List.reduceReplicate,E,F]
            refine .q ?_;refine .text ?_;simp (disch:=first|exact za|fail) only [go_sem,seval,-List.reduceReplicate,E,F]
            refine .q ?_;refine .ifF (by simp (disch:=first|exact za|fail) only [go_sem,seval,-List.reduceReplicate]) ?_
            refine .skip ?_
            refine .q ?_;refine .text ?_;simp (disch:=first|exact za|fail) only [go_sem,seval,-List.reduceReplicate,E,F,q5]
            have hmu:r.length < b.length:=by omega
            first | (refine ihE (⟨(H'.new (.cells [.vr α s'.l.length 4,.vr γ s'.gone.length 1])).set (H.n+2) (.cells [.vr α s'.l.length 4,.vr γ s'.gone.length 1]),s',α,γ,r⟩) _ _ ?_ ?_ (zbD hQ0 p1 p2 p3 p4 p5 p6 p7 hok hstep (by omega)) ?_) | (refine .z rfl ?_;refine ihE (⟨(H'.new (.cells [.vr α s'.l.length 4,.vr γ s'.gone.length 1])).set (H.n+2) (.cells [.vr α s'.l.length 4,.vr γ s'.gone.length 1]),s',α,γ,r⟩) _ _ ?_ ?_ (zbD hQ0 p1 p2 p3 p4 p5 p6 p7 hok hstep (by omega)) ?_) | (refine .z rfl ?_;refine .z rfl ?_;refine ihE (⟨(H'.new (.cells [.vr α s'.l.length 4,.vr γ s'.gone.length 1])).set (H.n+2) (.cells [.vr α s'.l.length 4,.vr γ s'.gone.length 1]),s',α,γ,r⟩) _ _ ?_ ?_ (zbD hQ0 p1 p2 p3 p4 p5 p6 p7 hok hstep (by omega)) ?_) | (refine .z rfl ?_;refine .z rfl ?_;refine .z rfl ?_;refine ihE (⟨(H'.new (.cells [.vr α s'.l.length 4,.vr γ s'.gone.length 1])).set (H.n+2) (.cells [.vr α s'.l.length 4,.vr γ s'.gone.length 1]),s',α,γ,r⟩) _ _ ?_ ?_ (zbD hQ0 p1 p2 p3 p4 p5 p6 p7 hok hstep (by omega)) ?_)
            rotate_left 1
            · simp (disch:=first|exact za|fail) only [go_sem,seval,-List.reduceReplicate,E,F]<;>(repeat' (first | rfl | refine And.intro ?_ ?_))
            · first | rfl | (simp (disch:=first|exact za|fail) only [go_sem,seval,-List.reduceReplicate,E,F]<;>(try rfl))
            · exact hmu
        · by_cases k2:k=2#8
          · subst k2
            have lk1:=lk 2#8 _ rfl
            refine .q ?_;refine .text ?_;simp (disch:=first|exact za|fail) only [go_sem,seval,-List.reduceReplicate,E,F,fm,lk1]
            refine .q ?_;refine .text ?_;simp (disch:=first|exact za|fail) only [go_sem,seval,-List.reduceReplicate,E,F,zdP,hft]
            refine .q ?_;refine .ifF (by simp (disch:=first|exact za|fail) only [go_sem,seval,-List.reduceReplicate]) ?_
            refine .skip ?_
            refine .q ?_;refine .text ?_;simp (disch:=first|exact za|fail) only [go_sem,seval,-List.reduceReplicate,E,F,f5]
            refine CallK.ex (hspec p hpl.2.1 2#8 _ rfl) fun y H' hy => ?_
            rcases hy with ⟨hpn,y',T,⟨u,v,huv⟩,rfl,rfl⟩ | ⟨s',γ,hps,rfl,p1,p2,p3,p4,p5,p6,p7⟩
            · have hX : ∀ x b,b < B.n → ((app B T).new x).f b=B.f b:=fun x b hb=>by rw [Hp.f_new_old _ _ _ (by rw [app_n'];omega),zcn hb]
              have hXt : ∀ x,((app B T).new x).trunc H.n=H:=fun x=>by rw [Hp.trunc_new _ _ _ (by rw [app_n'];omega),zbT (by omega)];exact tr
              have hXn : ∀ x,H.n+1 < ((app B T).new x).n:=fun x=>by rw [n_new',app_n'];omega
              have hl:ld s b=(s,b.length,false):=zdA hs hpn
              rw [(hres _ hl).1,(hres _ hl).2.1,(hres _ hl).2.2,if_neg (by exact Bool.false_ne_true),hdi] at h
              have hαn:=Hp.lt fα
              have hβn:=Hp.lt fβ
              simp (disch:=first|exact za|fail) only [go_sem,seval,-List.reduceReplicate,E,F,huv]
              refine .q ?_;refine .text ?_;simp (disch:=first|exact za|fail) only [go_sem,seval,-List.reduceReplicate,E,F]
              refine .q ?_;refine .ifT (by simp (disch:=first|exact za|fail) only [go_sem,seval,-List.reduceReplicate]) ?_
              refine .q ?_;refine zeg (H.n+2) α β s.l s.gone ((hX _ _ (by omega)).trans f5) ((hX _ _ hαn).trans fα) ((hX _ _ hβn).trans fβ) αβ hc1 hc2 fun B' b1 b2 b3 b4 => ?_
              have g1:B'.f H.n=some (.cells [.p (.sl false 1 (pl b8 d)),.p (i64 s0)]):=(b3 _ (by omega) (by omega) (by omega)).trans ((hX _ _ (by omega)).trans f1)
              have g2:B'.f (H.n+1)=some (.cells [.p (.sl true 4 []),.p (.sl true 1 [])]):=(b3 _ (by omega) (by omega) (by omega)).trans ((hX _ _ (by omega)).trans f2)
              have tr':B'.trunc H.n=H:=(b4 _ (by omega) (by omega) (by omega)).trans (hXt _)
              have hbel:Bel H.n B':=zX (by rw [tr'];exact (Hp.trunc_self H).symm) hbel
              have hn':H.n+1 < B'.n:=by rw [b1];exact hXn _
              have hs0:B'.set (H.n+1) (.cells [.p (.sl true 4 []),.p (.sl true 1 [])])=B':=Hp.set_same _ _ _ g2
              (refine .q ?_)
              refine .openInv (fun L env' H'=>kF env' [(1,.ptr H.n 0),(2,.ptr (H.n+1) 0),(5,.ptr (H.n+2) 0),(7,.p (.sl false 1 (pl b8 b)))]∧kI L env' [(0,52,.p (.agg [.sl false 4 (pl zv s.l),.sl false 1 (pl bo s.gone)])),(1,53,.ptr H.n 0),(2,54,.p (.sl false 1 (pl b8 d))),(3,55,.p (i64 d.length)),(4,56,.p (.sl false 1 (pl b8 b))),(5,57,.p (i64 b.length)),(6,58,.p (i64 ((d.length:Int) - (b.length:Int)))),(8,3,.p (i64 ((d.length:Int) - (b.length:Int)))),(9,4,.p (i64 270))]∧(L 7=true → allT L [0])∧H'=(B'.set (H.n+1) (.cells (if L 7 then [.p (.sl false 4 (pl zv s.l)),.p (.sl false 1 (pl bo s.gone))] else [.p (.sl true 4 []),.p (.sl true 1 [])])))) follows (by kernel_rfl) ?_ ?_ ?_
              · exact⟨(by simp (disch:=first|exact za|fail) only [go_sem,seval,-List.reduceReplicate,kFi,kFn,and_self,E,F,g1,g2,b2,b1,hs0]),(fun _ _ h=>by cases h),(fun h=>by cases h),(by first | rfl | (simp only [Bool.false_eq_true,if_false];first | rfl | (simp (disch:=first|exact za|fail) only [go_sem,seval,-List.reduceReplicate,E,F,g1,g2,b2,b1,hs0]<;>rfl)))⟩
              · intro i o L env' H' ho hL hall hI
                obtain⟨KF,KG,m7,rfl⟩:=hI
                rcases i with _ | _ | _ | _ | _ | _ | _ | _ | _ | _ | i
                · cases ho;have n7:=nfT m7 hL;have f2:=kFg KF 2 rfl;refine zg (.p (.agg [.sl false 4 (pl zv s.l),.sl false 1 (pl bo s.gone)])) rfl rfl (by simp (disch:=first|exact za|fail) only [go_sem,seval,-List.reduceReplicate,reduceIte,Bool.false_eq_true,if_false,if_true,f2,n7,hL,g1,g2,b2,b1,hs0]<;>rfl) rfl ?_;exact⟨yp KF,yq KG,ka m7,(by rw [zb (by decide)])⟩
                · cases ho;have f0:=kFg KF 0 rfl;refine zg (.ptr H.n 0) rfl rfl (by simp (disch:=first|exact za|fail) only [go_sem,seval,-List.reduceReplicate,f0,g1,g2,b2,b1,hs0]<;>rfl) rfl ?_;exact⟨yp KF,yq KG,ka m7,(by rw [zb (by decide)])⟩
                · cases ho;have d1:=z5 KG 1 rfl (kL hall 0 rfl rfl);refine zg (.p (.sl false 1 (pl b8 d))) rfl rfl (by simp (disch:=first|exact za|fail) only [go_sem,seval,-List.reduceReplicate,d1,g1,g2,b2,b1,hs0]<;>rfl) rfl ?_;exact⟨yp KF,yq KG,ka m7,(by rw [zb (by decide)])⟩
                · cases ho;have d2:=z5 KG 2 rfl (kL hall 0 rfl rfl);refine zg (.p (i64 d.length)) rfl rfl (by simp (disch:=first|exact za|fail) only [go_sem,seval,-List.reduceReplicate,d2,g1,g2,b2,b1,hs0]<;>rfl) rfl ?_;exact⟨yp KF,yq KG,ka m7,(by rw [zb (by decide)])⟩
                · cases ho;have f3:=kFg KF 3 rfl;refine zg (.p (.sl false 1 (pl b8 b))) rfl rfl (by simp (disch:=first|exact za|fail) only [go_sem,seval,-List.reduceReplicate,f3,g1,g2,b2,b1,hs0]<;>rfl) rfl ?_;exact⟨yp KF,yq KG,ka m7,(by rw [zb (by decide)])⟩
                · cases ho;have d4:=z5 KG 4 rfl (kL hall 0 rfl rfl);refine zg (.p (i64 b.length)) rfl rfl (by simp (disch:=first|exact za|fail) only [go_sem,seval,-List.reduceReplicate,d4,g1,g2,b2,b1,hs0]<;>rfl) rfl ?_;exact⟨yp KF,yq KG,ka m7,(by rw [zb (by decide)])⟩
                · cases ho;have d3:=z5 KG 3 rfl (kL hall 0 rfl rfl);have d5:=z5 KG 5 rfl (kL hall 1 rfl rfl);refine zg (.p (i64 ((d.length:Int) - (b.length:Int)))) rfl rfl (by simp (disch:=first|exact za|fail) only [go_sem,seval,-List.reduceReplicate,d3,d5,g1,g2,b2,b1,hs0]<;>rfl) rfl ?_;exact⟨yp KF,yq KG,ka m7,(by rw [zb (by decide)])⟩
                · cases ho;have h0:=kL hall 0 rfl rfl;have d0:=z5 KG 0 rfl h0;have f1:=kFg KF 1 rfl;refine zbl rfl rfl (by simp (disch:=first|exact za|fail) only [go_sem,seval,-List.reduceReplicate,reduceIte,Bool.false_eq_true,if_false,if_true,f1,d0,hL,g1,g2,b2,b1,hs0]<;>rfl) rfl ?_;exact⟨KF,kIs KG,(fun _=>kt (zi h0 yB)),(by (have e7:more L 7 7=true:=yX);(try simp only [e7,hL]);first | done | rfl | (simp only [e7,hL,if_true,if_false,Bool.false_eq_true];first | done | rfl | (simp (disch:=first|exact za|fail) only [go_sem,seval,-List.reduceReplicate,e7,hL,g1,g2,b2,b1,hs0]<;>rfl)))⟩
                · cases ho;have d6:=z5 KG 6 rfl (kL hall 0 rfl rfl);refine zg (.p (i64 ((d.length:Int) - (b.length:Int)))) rfl rfl (by simp (disch:=first|exact za|fail) only [go_sem,seval,-List.reduceReplicate,d6,g1,g2,b2,b1,hs0]<;>rfl) rfl ?_;exact⟨yp KF,yq KG,ka m7,(by rw [zb (by decide)])⟩
                · cases ho;refine zg (.p (i64 270)) rfl rfl (by simp (disch:=first|exact za|fail) only [go_sem,seval,-List.reduceReplicate,g1,g2,b2,b1,hs0]<;>rfl) rfl ?_;exact⟨yp KF,yq KG,ka m7,(by rw [zb (by decide)])⟩
                · simp at ho
              · intro L env' H' hall hI
                obtain⟨KF,KG,_,rfl⟩:=hI
                have l7:=hall 7 (by decide)
                have f0:=kFg KF 0 rfl
                have f1:=kFg KF 1 rfl
                have f2:=kFg KF 2 rfl
                have f3:=kFg KF 3 rfl
                have g1:=z5 KG 1 rfl (hall 1 (by decide))
                have g2:=z5 KG 2 rfl (hall 2 (by decide))
                have g8:=z5 KG 7 rfl (hall 8 (by decide))
                have g9:=z5 KG 8 rfl (hall 9 (by decide))
                simp only [l7,if_true]
                clear hall
                refine .q ?_;refine .rt Tryd.func11 (by rw [Tryd.results11]) (hx:=by simp (disch:=first|exact za|fail) only [go_sem,seval,-List.reduceReplicate,f1,g8,g9,tr'];rfl) (hR := ?_);simp (disch:=first|exact za|fail) only [go_sem,seval,-List.reduceReplicate,f1,g8,g9,tr']
                exact h
            · have hstep:ld s b=ld s' r:=za0 hs hps
              have hok:=zfm hps ok
              have q5:H'.f (H.n+2)=some (.cells [.vr α s.l.length 4,.vr β s.gone.length 1]):=(p5 _ (by omega) (by omega) (by omega)).trans f5
              simp (disch:=first|exact za|fail) only [go_sem,seval,-List.reduceReplicate,E,F]
              refine .q ?_;refine .text ?_;simp (disch:=first|exact za|fail) only [go_sem,seval,-List.reduceReplicate,E,F]
              refine .q ?_;refine .ifF (by simp (disch:=first|exact za|fail) only [go_sem,seval,-List.reduceReplicate]) ?_
              refine .skip ?_
              refine .q ?_;refine .text ?_;simp (disch:=first|exact za|fail) only [go_sem,seval,-List.reduceReplicate,E,F,q5]
              have hmu:r.length < b.length:=by omega
              first | (refine ihE (⟨(H'.new (.cells [.vr α s'.l.length 4,.vr γ s'.gone.length 1])).set (H.n+2) (.cells [.vr α s'.l.length 4,.vr γ s'.gone.length 1]),s',α,γ,r⟩) _ _ ?_ ?_ (zbD hQ0 p1 p2 p3 p4 p5 p6 p7 hok hstep (by omega)) ?_) | (refine .z rfl ?_;refine ihE (⟨(H'.new (.cells [.vr α s'.l.length 4,.vr γ s'.gone.length 1])).set (H.n+2) (.cells [.vr α s'.l.length 4,.vr γ s'.gone.length 1]),s',α,γ,r⟩) _ _ ?_ ?_ (zbD hQ0 p1 p2 p3 p4 p5 p6 p7 hok hstep (by omega)) ?_) | (refine .z rfl ?_;refine .z rfl ?_;refine ihE (⟨(H'.new (.cells [.vr α s'.l.length 4,.vr γ s'.gone.length 1])).set (H.n+2) (.cells [.vr α s'.l.length 4,.vr γ s'.gone.length 1]),s',α,γ,r⟩) _ _ ?_ ?_ (zbD hQ0 p1 p2 p3 p4 p5 p6 p7 hok hstep (by omega)) ?_) | (refine .z rfl ?_;refine .z rfl ?_;refine .z rfl ?_;refine ihE (⟨(H'.new (.cells [.vr α s'.l.length 4,.vr γ s'.gone.length 1])).set (H.n+2) (.cells [.vr α s'.l.length 4,.vr γ s'.gone.length 1]),s',α,γ,r⟩) _ _ ?_ ?_ (zbD hQ0 p1 p2 p3 p4 p5 p6 p7 hok hstep (by omega)) ?_)
              rotate_left 1
              · simp (disch:=first|exact za|fail) only [go_sem,seval,-List.reduceReplicate,E,F]<;>(repeat' (first | rfl | refine And.intro ?_ ?_))
              · first | rfl | (simp (disch:=first|exact za|fail) only [go_sem,seval,-List.reduceReplicate,E,F]<;>(try rfl))
              · exact hmu
          · have ha:zcM k zez=none:=by
             show (if 1#8=k then _ else if 2#8=k then _ else none)=none
             rw [if_neg (Ne.symm k1),if_neg (Ne.symm k2)]
            have hpn:zV s k p=none:=by
             unfold zV
             rw [if_neg k1,if_neg fun e=>k2 e.1]
            have lk1:=lkn k ha
            have hl:ld s b=(s,b.length,false):=zdA hs hpn
            rw [(hres _ hl).1,(hres _ hl).2.1,(hres _ hl).2.2,if_neg (by exact Bool.false_ne_true),hdi] at h
            refine .q ?_;refine .text ?_;simp (disch:=first|exact za|fail) only [go_sem,seval,-List.reduceReplicate,E,F,fm,lk1]
            refine .q ?_;refine .text ?_;simp (disch:=first|exact za|fail) only [go_sem,seval,-List.reduceReplicate,E,F,zgM,hft]
            refine .q ?_;refine .ifT (by simp (disch:=first|exact za|fail) only [go_sem,seval,-List.reduceReplicate]) ?_
            refine .q ?_;refine zeg (H.n+2) α β s.l s.gone f5 fα fβ αβ hc1 hc2 fun B' b1 b2 b3 b4 => ?_
            have g1:B'.f H.n=some (.cells [.p (.sl false 1 (pl b8 d)),.p (i64 s0)]):=(b3 _ (by omega) (by omega) (by omega)).trans f1
            have g2:B'.f (H.n+1)=some (.cells [.p (.sl true 4 []),.p (.sl true 1 [])]):=(b3 _ (by omega) (by omega) (by omega)).trans f2
            have tr':B'.trunc H.n=H:=(b4 _ (by omega) (by omega) (by omega)).trans tr
            have hbel:Bel H.n B':=zX (by rw [tr'];exact (Hp.trunc_self H).symm) hbel
            have hn':H.n+1 < B'.n:=by rw [b1];exact (by omega)
            have hs0:B'.set (H.n+1) (.cells [.p (.sl true 4 []),.p (.sl true 1 [])])=B':=Hp.set_same _ _ _ g2
            (refine .q ?_)
            refine .openInv (fun L env' H'=>kF env' [(1,.ptr H.n 0),(2,.ptr (H.n+1) 0),(5,.ptr (H.n+2) 0),(7,.p (.sl false 1 (pl b8 b)))]∧kI L env' [(0,36,.p (.agg [.sl false 4 (pl zv s.l),.sl false 1 (pl bo s.gone)])),(1,37,.ptr H.n 0),(2,38,.p (.sl false 1 (pl b8 d))),(3,39,.p (i64 d.length)),(4,40,.p (.sl false 1 (pl b8 b))),(5,41,.p (i64 b.length)),(6,42,.p (i64 ((d.length:Int) - (b.length:Int)))),(8,3,.p (i64 ((d.length:Int) - (b.length:Int)))),(9,4,.p (i64 270))]∧(L 7=true → allT L [0])∧H'=(B'.set (H.n+1) (.cells (if L 7 then [.p (.sl false 4 (pl zv s.l)),.p (.sl false 1 (pl bo s.gone))] else [.p (.sl true 4 []),.p (.sl true 1 [])])))) follows (by kernel_rfl) ?_ ?_ ?_
            · exact⟨(by simp (disch:=first|exact za|fail) only [go_sem,seval,-List.reduceReplicate,kFi,kFn,and_self,E,F,g1,g2,b2,b1,hs0]),(fun _ _ h=>by cases h),(fun h=>by cases h),(by first | rfl | (simp only [Bool.false_eq_true,if_false];first | rfl | (simp (disch:=first|exact za|fail) only [go_sem,seval,-List.reduceReplicate,E,F,g1,g2,b2,b1,hs0]<;>rfl)))⟩
            · intro i o L env' H' ho hL hall hI
              obtain⟨KF,KG,m7,rfl⟩:=hI
              rcases i with _ | _ | _ | _ | _ | _ | _ | _ | _ | _ | i
              · cases ho;have n7:=nfT m7 hL;have f2:=kFg KF 2 rfl;refine zg (.p (.agg [.sl false 4 (pl zv s.l),.sl false 1 (pl bo s.gone)])) rfl rfl (by simp (disch:=first|exact za|fail) only [go_sem,seval,-List.reduceReplicate,reduceIte,Bool.false_eq_true,if_false,if_true,f2,n7,hL,g1,g2,b2,b1,hs0]<;>rfl) rfl ?_;exact⟨yp KF,yq KG,ka m7,(by rw [zb (by decide)])⟩
              · cases ho;have f0:=kFg KF 0 rfl;refine zg (.ptr H.n 0) rfl rfl (by simp (disch:=first|exact za|fail) only [go_sem,seval,-List.reduceReplicate,f0,g1,g2,b2,b1,hs0]<;>rfl) rfl ?_;exact⟨yp KF,yq KG,ka m7,(by rw [zb (by decide)])⟩
              · cases ho;have d1:=z5 KG 1 rfl (kL hall 0 rfl rfl);refine zg (.p (.sl false 1 (pl b8 d))) rfl rfl (by simp (disch:=first|exact za|fail) only [go_sem,seval,-List.reduceReplicate,d1,g1,g2,b2,b1,hs0]<;>rfl) rfl ?_;exact⟨yp KF,yq KG,ka m7,(by rw [zb (by decide)])⟩
              · cases ho;have d2:=z5 KG 2 rfl (kL hall 0 rfl rfl);refine zg (.p (i64 d.length)) rfl rfl (by simp (disch:=first|exact za|fail) only [go_sem,seval,-List.reduceReplicate,d2,g1,g2,b2,b1,hs0]<;>rfl) rfl ?_;exact⟨yp KF,yq KG,ka m7,(by rw [zb (by decide)])⟩
              · cases ho;have f3:=kFg KF 3 rfl;refine zg (.p (.sl false 1 (pl b8 b))) rfl rfl (by simp (disch:=first|exact za|fail) only [go_sem,seval,-List.reduceReplicate,f3,g1,g2,b2,b1,hs0]<;>rfl) rfl ?_;exact⟨yp KF,yq KG,ka m7,(by rw [zb (by decide)])⟩
              · cases ho;have d4:=z5 KG 4 rfl (kL hall 0 rfl rfl);refine zg (.p (i64 b.length)) rfl rfl (by simp (disch:=first|exact za|fail) only [go_sem,seval,-List.reduceReplicate,d4,g1,g2,b2,b1,hs0]<;>rfl) rfl ?_;exact⟨yp KF,yq KG,ka m7,(by rw [zb (by decide)])⟩
              · cases ho;have d3:=z5 KG 3 rfl (kL hall 0 rfl rfl);have d5:=z5 KG 5 rfl (kL hall 1 rfl rfl);refine zg (.p (i64 ((d.length:Int) - (b.length:Int)))) rfl rfl (by simp (disch:=first|exact za|fail) only [go_sem,seval,-List.reduceReplicate,d3,d5,g1,g2,b2,b1,hs0]<;>rfl) rfl ?_;exact⟨yp KF,yq KG,ka m7,(by rw [zb (by decide)])⟩
              · cases ho;have h0:=kL hall 0 rfl rfl;have d0:=z5 KG 0 rfl h0;have f1:=kFg KF 1 rfl;refine zbl rfl rfl (by simp (disch:=first|exact za|fail) only [go_sem,seval,-List.reduceReplicate,reduceIte,Bool.false_eq_true,if_false,if_true,f1,d0,hL,g1,g2,b2,b1,hs0]<;>rfl) rfl ?_;exact⟨KF,kIs KG,(fun _=>kt (zi h0 yB)),(by (have e7:more L 7 7=true:=yX);(try simp only [e7,hL]);first | done | rfl | (simp only [e7,hL,if_true,if_false,Bool.false_eq_true];first | done | rfl | (simp (disch:=first|exact za|fail) only [go_sem,seval,-List.reduceReplicate,e7,hL,g1,g2,b2,b1,hs0]<;>rfl)))⟩
              · cases ho;have d6:=z5 KG 6 rfl (kL hall 0 rfl rfl);refine zg (.p (i64 ((d.length:Int) - (b.length:Int)))) rfl rfl (by simp (disch:=first|exact za|fail) only [go_sem,seval,-List.reduceReplicate,d6,g1,g2,b2,b1,hs0]<;>rfl) rfl ?_;exact⟨yp KF,yq KG,ka m7,(by rw [zb (by decide)])⟩
              · cases ho;refine zg (.p (i64 270)) rfl rfl (by simp (disch:=first|exact za|fail) only [go_sem,seval,-List.reduceReplicate,g1,g2,b2,b1,hs0]<;>rfl) rfl ?_;exact⟨yp KF,yq KG,ka m7,(by rw [zb (by decide)])⟩
              · simp at ho
            · intro L env' H' hall hI
              obtain⟨KF,KG,_,rfl⟩:=hI
              have l7:=hall 7 (by decide)
              have f0:=kFg KF 0 rfl
              have f1:=kFg KF 1 rfl
              have f2:=kFg KF 2 rfl
              have f3:=kFg KF 3 rfl
              have g8:=z5 KG 7 rfl (hall 8 (by decide))
              have g9:=z5 KG 8 rfl (hall 9 (by decide))
              simp only [l7,if_true]
              clear hall
              refine .q ?_;refine .rt Tryd.func11 (by rw [Tryd.results11]) (hx:=by simp (disch:=first|exact za|fail) only [go_sem,seval,-List.reduceReplicate,f1,g8,g9,tr'];rfl) (hR := ?_);simp (disch:=first|exact za|fail) only [go_sem,seval,-List.reduceReplicate,f1,g8,g9,tr']
              exact h
end walks
end Go.Proofs.YtdpfkanfahchjaaDoor
